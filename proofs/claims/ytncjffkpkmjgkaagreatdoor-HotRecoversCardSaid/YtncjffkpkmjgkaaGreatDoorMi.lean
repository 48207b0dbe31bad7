/- seg.Cut: where a batch begins (slices.IndexFunc with its closure). seg.Sync, seg.Synced. Row's batches of at most twenty numbers. -/
import Derived.Test.YtncjffkpkmjgkaaGreatDoorMg

/-! Sc -/
namespace Go.Proofs.YtncjffkpkmjgkaaGreatDoor.Sg
open Go.RowKit Er Go.Maps

/-- The first batch that begins at an offset. -/
def idxO (o : Int) : List Bt → Option Nat
  | [] => none
  | x :: l => if x.b = o then some 0 else (idxO o l).map (· + 1)
theorem idxO_some (o : Int) : ∀ (l0 l1 : List Bt) (y : Bt), (∀ x ∈ l0, x.b ≠ o) → y.b = o → idxO o (l0 ++ y :: l1) = some l0.length
  | [], l1, y, _, h => by simp [idxO, h]
  | x :: l0, l1, y, h0, h => by
    simp only [List.cons_append, idxO]
    rw [if_neg (h0 x List.mem_cons_self), idxO_some o l0 l1 y (fun z hz => h0 z (List.mem_cons_of_mem _ hz)) h]; rfl
theorem idxO_none (o : Int) : ∀ l : List Bt, (∀ x ∈ l, x.b ≠ o) → idxO o l = none
  | [], _ => rfl
  | x :: l, h0 => by
    show (if x.b = o then _ else _) = _
    rw [if_neg (h0 x List.mem_cons_self), idxO_none o l (fun z hz => h0 z (List.mem_cons_of_mem _ hz))]; rfl
/-- .. none: -1. -/
def idxB (o : Int) (l : List Bt) : Int := match idxO o l with | some k => k | none => -1
abbrev cutFn (b : Nat) : Value := .func (.func 134) #[] #[ptr b]

set_option maxRecDepth 100000 in
theorem cutfn_ok (x : Bt) (p b : Nat) (o : Int) (w : World) (hc : w.cell? ⟨b, 0, none⟩ = some (.int .i64 o)) :
    Calls Tryz.prog 134 #[.agg #[.int .i64 x.b, .int .i64 (x.b + x.r.length), .int .i64 p, .int .i64 (szB x), .int .i64 x.e, .int .i64 (tmax x)], ptr b] w fun e w' => e = .returned (.bool (x.b == o)) ∧ Below w.heap.size w w' := by
  have hb := World.block_lt_of_cell? _ _ hc
  go_enter Tryz.func134, Tryz.ntmps134
  go_wp2_with fail
  go_ret
  exact ⟨rfl, (Below.refl _ _).alloc (Nat.le_refl _) _⟩

section
variable {S : List Nat} {E : Nat → Addr} {B : Nat} {P : Pm} {s : Nat} {G : Sg} {D : Dk} {A Ad F : Mm} {w : World}

set_option maxRecDepth 100000 in
set_option maxHeartbeats 1000000 in
theorem idxfn_ok (hG : SgM s G A) (hW : SgW G) (lv : Value) (h4 : w.cell? ⟨s, 4, none⟩ = some lv) (b : Nat) (o : Int) (hb : P.m b = some (.cells #[.int .i64 o] 2 (0, 0))) (hH : Hp w P (A ++ F)) :
    Calls Tryz.prog 133 #[lv, cutFn b] w fun e w' => e = .returned (.int .i64 (idxB o G.l)) ∧ Hp w' P (A ++ F) := by
  have hbx : Pers P (fun w => w.cell? ⟨b, 0, none⟩ = some (.int .i64 o)) := fun w hw => by
    have := hw.m _ _ hb
    simp [World.cell?, this]
  obtain ⟨n, hn⟩ : ∃ n, G.l.length = n := ⟨_, rfl⟩
  have hnl := hW.len
  by_cases h0 : G.l = []
  · have hG2 := hG
    obtain ⟨lv2, Al, hA, hr⟩ := hG2
    obtain ⟨a, c, rfl⟩ := hr.shape
    have c4 : w.cell? ⟨s, 4, none⟩ = some (.slice a G.l.length c) := hH.cell (b := s) (c := sgCells G (.slice a G.l.length c)) (t := 104) (fr := (0, 0)) (by simp [hA]) rfl
    have hl0 : G.l.length = 0 := by rw [h0]; rfl
    rw [hl0] at c4
    rw [c4] at h4
    cases h4
    have H0 := Lib.hid hH
    have hi : idxB o G.l = -1 := by rw [h0]; rfl
    rw [hi]
    clear hH hr hG h0 hW c4 hn hi hb hbx hA hl0
    go_enter Tryz.func133, Tryz.ntmps133
    go_wp2_with fail
    go_loopg [8] 0 (fun m vi wr => vi = .int .i64 0 ∧ wr = w)
    case atStart => exact ⟨rfl, rfl⟩
    case round =>
      obtain ⟨rfl, rfl⟩ := hrel
      go_wp2_with fail
      go_ret
      exact ⟨rfl, H0.out⟩
  · obtain ⟨g, c, hc, hpl⟩ := hG.places h0
    obtain ⟨d4, -⟩ := hpl w P _ hH
    rw [d4] at h4
    cases h4
    rw [hn] at hc hnl ⊢
    have H0 := Lib.hid hH
    have HN := Lib.hid hn
    have HP := Lib.hid hpl
    have HBX := Lib.hid hbx
    clear hH hn hpl h0 hW d4 hb hbx
    go_enter Tryz.func133, Tryz.ntmps133
    go_wp2_with fail
    go_loopg [8] n (fun m vi wr => ∃ k : Nat, k + m = n ∧ vi = .int .i64 k ∧ (∀ x, x ∈ G.l.take k → x.b ≠ o) ∧ Hp wr P (A ++ F))
    case atStart => exact ⟨0, by omega, rfl, by simp, H0.out⟩
    case round =>
      obtain ⟨k, hk, rfl, hall, hHr⟩ := hrel
      by_cases hlt : k < n
      · obtain ⟨gj, rfl⟩ : ∃ x, gk = x + 1 := ⟨gk - 1, by omega⟩
        have hkl : k < G.l.length := by rw [HN.out]; exact hlt
        obtain ⟨x, hx⟩ : ∃ x, G.l[k] = x := ⟨_, rfl⟩
        obtain ⟨-, hpc⟩ := HP.out wr P _ hHr
        have hpc := hpc k hkl
        obtain ⟨p, hp⟩ : ∃ p, sizes (G.l.take k) = p := ⟨_, rfl⟩
        rw [hx, hp] at hpc
        have q0 := hpc 0 _ rfl
        have q1 := hpc 1 _ rfl
        have q2 := hpc 2 _ rfl
        have q3 := hpc 3 _ rfl
        have q4 := hpc 4 _ rfl
        have q5 := hpc 5 _ rfl
        rw [Nat.add_zero] at q0
        have j2 : (k : Int) < (n : Int) := by omega
        have j3 : (0 : Int) ≤ (k : Int) := by omega
        have hcx := hHr.use HBX.out
        have HHR := Lib.hid hHr
        have HX := Lib.hid hx
        have HALL := Lib.hid hall
        clear hHr hpc hx hp hall
        go_wp2_with fail
        refine (cutfn_ok x p b o _ hcx).mono ?_
        rintro e w3 ⟨rfl, hb3⟩
        have H3 := Lib.hid (HHR.out.below hb3 (Nat.le_refl _))
        clear hb3
        by_cases hxo : x.b = o
        · have hbq : (x.b == o) = true := by simp [hxo]
          rw [hbq]
          have hix : idxB o G.l = (k : Int) := by
            unfold idxB
            rw [← take_split G.l k hkl, idxO_some o _ _ _ HALL.out (by rw [HX.out]; exact hxo), List.length_take, Nat.min_eq_left (by omega)]
          have HIX := Lib.hid hix
          clear hxo hbq hix
          go_wp2_with fail
          go_ret
          exact ⟨by rw [HIX.out]; rfl, H3.out⟩
        · have hbq : (x.b == o) = false := by simp [hxo]
          rw [hbq]
          have hall2 : ∀ y, y ∈ G.l.take (k + 1) → y.b ≠ o := fun y hy => by
            rw [take_next _ k hkl] at hy
            rcases List.mem_append.1 hy with hy | hy
            · exact HALL.out y hy
            · rw [List.mem_singleton.1 hy, HX.out]; exact hxo
          have HALL2 := Lib.hid hall2
          clear hxo hbq hall2
          go_wp2_with fail
          go_roundg gj
          case measure => omega
          case rel => exact ⟨k + 1, by omega, by simp, HALL2.out, H3.out⟩
      · have hkn : k = n := by omega
        have e : G.l.take k = G.l := by rw [hkn, ← HN.out]; exact List.take_length
        rw [e] at hall
        have hix : idxB o G.l = -1 := by unfold idxB; rw [idxO_none o _ hall]
        have HIX := Lib.hid hix
        have HHR := Lib.hid hHr
        clear hall hix e hHr
        go_wp2_with fail
        go_ret
        exact ⟨by rw [HIX.out]; rfl, HHR.out⟩
end

end Go.Proofs.YtncjffkpkmjgkaaGreatDoor.Sg

/-! Sd -/
namespace Go.Proofs.YtncjffkpkmjgkaaGreatDoor.Sg
open Go.RowKit Er Go.Maps

theorem sizes_mono (l : List Bt) : ∀ (j k : Nat), j ≤ k → sizes (l.take j) ≤ sizes (l.take k)
  | j, 0, h => by obtain rfl : j = 0 := by omega
                  exact Nat.le_refl _
  | j, k + 1, h => by
    by_cases e : j = k + 1
    · rw [e]; exact Nat.le_refl _
    · refine Nat.le_trans (sizes_mono l j k (by omega)) ?_
      by_cases hk : k < l.length
      · rw [take_next l k hk, sizes_app]; omega
      · rw [List.take_of_length_le (by omega), List.take_of_length_le (by omega)]; exact Nat.le_refl _
def synS (kept : Nat) (b : Int) (l : List Bt) : Int × Nat := l.foldl (fun s x => (if s.2 + szB x ≤ kept then x.b + x.r.length else s.1, s.2 + szB x)) (b, 0)
/-- Where what is synced ends. -/
def synF (kept : Nat) (b : Int) (l : List Bt) : Int := (synS kept b l).1
theorem synS_step (kept : Nat) (b : Int) (l : List Bt) (k : Nat) (h : k < l.length) : synS kept b (l.take (k + 1)) = (if (synS kept b (l.take k)).2 + szB l[k] ≤ kept then l[k].b + l[k].r.length else (synS kept b (l.take k)).1, (synS kept b (l.take k)).2 + szB l[k]) := by
  unfold synS; rw [take_next l k h, List.foldl_append]; rfl
theorem synS_pos (kept : Nat) (b : Int) (l : List Bt) : ∀ k, k ≤ l.length → (synS kept b (l.take k)).2 = sizes (l.take k)
  | 0, _ => by simp [synS, sizes]
  | k + 1, h => by
    rw [synS_step _ _ l k (by omega), synS_pos kept b l k (by omega), take_next l k (by omega), sizes_app]; simp [sizes]
theorem synF_step (kept : Nat) (b : Int) (l : List Bt) (k : Nat) (h : k < l.length) : synF kept b (l.take (k + 1)) = if sizes (l.take k) + szB l[k] ≤ kept then l[k].b + l[k].r.length else synF kept b (l.take k) := by
  unfold synF; rw [synS_step _ _ l k h, synS_pos kept b l k (by omega)]
theorem synF_at (b : Int) (l : List Bt) (j : Nat) (hj : j ≤ l.length) : ∀ k, k ≤ l.length → synF (sizes (l.take j)) b (l.take k) = endOf b (l.take (min j k))
  | 0, _ => by simp [synF, synS, endOf]
  | k + 1, h => by
    have ih := synF_at b l j hj k (by omega)
    have e : sizes (l.take k) + szB l[k] = sizes (l.take (k + 1)) := by rw [take_next l k (by omega), sizes_app]; simp [sizes]
    rw [synF_step _ _ l k (by omega), e]
    by_cases hk : k + 1 ≤ j
    · rw [if_pos (sizes_mono l _ _ hk), Nat.min_eq_right hk, take_next l k (by omega), endOf_snoc]
    · rw [if_neg, ih, Nat.min_eq_left (by omega), Nat.min_eq_left (by omega)]
      have h1 := sizes_mono l j k (by omega)
      have h2 := szB_pos (l[k]'(by omega))
      omega
theorem synF_all (b : Int) (l : List Bt) : synF (sizes l) b l = endOf b l := by
  have := synF_at b l l.length (Nat.le_refl _) l.length (Nat.le_refl _)
  simpa using this

section
variable {S : List Nat} {E : Nat → Addr} {B : Nat} {P : Pm} {s : Nat} {G : Sg} {D : Dk} {A Ad F : Mm} {w : World}

def Sg.syn (G : Sg) : Sg := { G with kept := sizes G.l }

set_option maxRecDepth 100000 in
set_option maxHeartbeats 1000000 in
theorem ssync_on (C : Ctx S E B P) (hG : SgM s G A) (hO : SegOn D G) (hD : DkM P G.d D Ad) (hH : Hp w P (A ++ (Ad ++ F))) :
    Calls Tryz.prog 65 #[ptr s] w fun e w' => e = .returned .nilIface ∧ ∃ A' Ad' D', SgM s G.syn A' ∧ DkM P G.d D' Ad' ∧ SegOn D' G.syn ∧ DkSame D D' ∧ D'.used = D.used ∧
      (∀ s', s' ≠ G.nm → D'.look s' = D.look s') ∧ Hp w' P (A' ++ (Ad' ++ F)) := by
  obtain ⟨f, h1, h2, h3⟩ := hO.f
  have hr := hO.room
  have hu := hO.used
  have hnm := hO.nm
  have hW := hO.W
  have hfl : f.b.length = sizes G.l := by rw [h2, flatB_len]
  have hO2 : SegOn (D.sync f) G.syn := ⟨sync_I hO.I f, hO.ok, hO.by_, hO.base, hO.nm, ⟨{ f with s := f.b.length }, by show Dk.look _ G.nm = _; rw [sync_look hO.I h1, if_pos rfl], h2, hfl⟩, by rw [(sync_same hO.I f).room]; exact hr, by rw [sync_used hO.I h1, (sync_same hO.I f).room]; exact hu⟩
  obtain ⟨lv, c0, c1, -, -, -, -⟩ := hG.cells hH
  have HO2 := Lib.hid hO2
  have HSM := Lib.hid (sync_same hO.I f)
  have HUS := Lib.hid (sync_used hO.I h1)
  have HLK : Hid (∀ s', s' ≠ G.nm → (D.sync f).look s' = D.look s') := fun s' hs' => by rw [sync_look hO.I h1, if_neg hs']
  have HF := Lib.hid (hO.I.find_ok h1)
  have HL := Lib.hid (look_some h1).2
  have HW := Lib.hid hW
  have H0 := Lib.hid hH
  obtain ⟨n, hn⟩ : ∃ n, sizes G.l = n := ⟨_, rfl⟩
  have HN := Lib.hid hn
  clear h1 h2 h3 hH hO hO2 hfl hW hn
  go_enter Tryz.func65, Tryz.ntmps65
  go_wp2_with fail
  go_region_held3 (fun w' => w'.cell? ⟨s, 0, none⟩ = some (ptr G.d) ∧ w'.cell? ⟨s, 1, none⟩ = some (str G.nm))
    (first
      | go_keep
      | exact ⟨k0, k1⟩)
    (first
      | (go_at_call 62
         with_reducible refine (dsync_ok C hD (Hp.mid H0.out.drew) G.nm (by omega) f.blk HF.out f HL.out).mono ?_
         rintro e w1 ⟨rfl, Ad1, hD1, hH1⟩
         have hH3 := Hp.mid hH1
         obtain ⟨lv3, k0, k1, -, -, -, -⟩ := hG.cells hH3))
  have H3 := Lib.hid hH3
  have HD1 := Lib.hid hD1
  clear hH1 hH3 hD1
  go_wp2_with fail
  refine (ssize_any hG HW.out H3.out).mono ?_
  rintro e w2 ⟨rfl, hH4⟩
  rw [HN.out]
  obtain ⟨lv4, Al, rfl, hr4⟩ := hG
  have k5 := (@Hp.cell _ _ _ hH4 s (sgCells G lv4) 104 (0, 0) (by simp)) (i := 5) rfl
  have kf := @Hp.frozen _ _ _ hH4 s (sgCells G lv4) 104 (by simp) 5
  have H4 := Lib.hid hH4
  clear hH4
  go_wp2_with fail
  go_ret
  refine ⟨rfl, (s, Obj.cells (sgCells G.syn lv4) 104 (0, 0)) :: Al, Ad1, D.sync f, ⟨lv4, Al, rfl, hr4⟩, HD1.out, HO2.out, HSM.out, HUS.out, HLK.out, ?_⟩
  have := H4.out.set 5 (.int .i64 n)
  unfold Sg.syn
  rw [HN.out]
  simpa [sgCells] using this

set_option maxRecDepth 100000 in
set_option maxHeartbeats 1000000 in
theorem ssynced_ok (hG : SgM s G A) (hW : SgW G) (hH : Hp w P (A ++ F)) :
    Calls Tryz.prog 92 #[ptr s] w fun e w' => e = .returned (.int .i64 (synF G.kept G.base G.l)) ∧ Hp w' P (A ++ F) := by
  obtain ⟨n, hn⟩ : ∃ n, G.l.length = n := ⟨_, rfl⟩
  have hG2 := hG
  obtain ⟨lv, Al, hA, hr⟩ := hG2
  obtain ⟨la, lc, rfl⟩ := hr.shape
  have c4 : ∀ w F, Hp w P (A ++ F) → w.cell? ⟨s, 2, none⟩ = some (.int .i64 G.base) ∧ w.cell? ⟨s, 4, none⟩ = some (.slice la n lc) ∧ w.cell? ⟨s, 5, none⟩ = some (.int .i64 G.kept) := fun w F hH => by
    rw [← hn]
    exact ⟨hH.cell (b := s) (c := sgCells G (.slice la G.l.length lc)) (t := 104) (fr := (0, 0)) (by simp [hA]) rfl, hH.cell (b := s) (c := sgCells G (.slice la G.l.length lc)) (t := 104) (fr := (0, 0)) (by simp [hA]) rfl, hH.cell (b := s) (c := sgCells G (.slice la G.l.length lc)) (t := 104) (fr := (0, 0)) (by simp [hA]) rfl⟩
  have hnl := hW.len
  rw [hn] at hnl
  obtain ⟨d2, d4, d5⟩ := c4 w F hH
  obtain ⟨kp, hkp⟩ : ∃ k, G.kept = k := ⟨_, rfl⟩
  have H0 := Lib.hid hH
  have HN := Lib.hid hn
  have HG := Lib.hid hG
  have HW := Lib.hid hW
  have HC4 := Lib.hid c4
  rw [hkp] at d5 HC4 ⊢
  clear hH hn hG hW c4 hr hA hkp
  go_enter Tryz.func92, Tryz.ntmps92
  go_wp2_with fail
  go_loopg [3, 15] n (fun m vt vi wr => ∃ k : Nat, k + m = n ∧ vi = .int .i64 k ∧ vt = .int .i64 (synF kp G.base (G.l.take k)) ∧ Hp wr P (A ++ F))
  case atStart => exact ⟨0, by omega, rfl, rfl, H0.out⟩
  case round =>
    obtain ⟨k, hk2, rfl, rfl, hHr⟩ := hrel
    by_cases hlt : k < n
    · obtain ⟨gj, rfl⟩ : ∃ x, gk = x + 1 := ⟨gk - 1, by omega⟩
      have hkl : k < G.l.length := by rw [HN.out]; exact hlt
      obtain ⟨g, c, hc, hpl⟩ := HG.out.places (fun h => by rw [h] at hkl; simp at hkl)
      obtain ⟨-, e5, e6⟩ := HC4.out wr _ hHr
      obtain ⟨e7, hpc⟩ := hpl wr P _ hHr
      rw [HN.out] at hc e7
      rw [e7] at e5
      cases e5
      have hpc := hpc k hkl
      have hst := synF_step kp G.base G.l k hkl
      have hsk := sizes_take G.l k hkl
      have hsz := HW.out.size
      obtain ⟨x, hx⟩ : ∃ x, G.l[k] = x := ⟨_, rfl⟩
      obtain ⟨p, hp⟩ : ∃ p, sizes (G.l.take k) = p := ⟨_, rfl⟩
      rw [hx, hp] at hpc hst hsk
      have q0 := hpc 0 _ rfl
      have q1 := hpc 1 _ rfl
      have q2 := hpc 2 _ rfl
      have q3 := hpc 3 _ rfl
      have q4 := hpc 4 _ rfl
      have q5 := hpc 5 _ rfl
      rw [Nat.add_zero] at q0
      obtain ⟨sx, hsx⟩ : ∃ t, szB x = t := ⟨_, rfl⟩
      rw [hsx] at q3 hsk hst
      obtain ⟨sy, hsy⟩ : ∃ t, synF kp G.base (G.l.take k) = t := ⟨_, rfl⟩
      rw [hsy] at hst ⊢
      have hww : IntKind.i64.wrap ((p : Int) + (sx : Int)) = (p : Int) + (sx : Int) := IntWalk.i64_in _ (by omega)
      have j2 : (k : Int) < (n : Int) := by omega
      have j3 : (0 : Int) ≤ (k : Int) := by omega
      have hsb : s < wr.heap.size := World.block_lt_of_cell? _ _ e6
      have HST := Lib.hid hst
      have HHR := Lib.hid hHr
      clear hHr hpc hpl hst hx hp hsx hsy hsk hsz e7
      by_cases hle : p + sx ≤ kp
      · have hle2 : (p : Int) + (sx : Int) ≤ (kp : Int) := by omega
        go_wp2_with fail
        go_quiet (fail)
        go_wp2_with fail
        go_roundg gj
        case measure => omega
        case rel => exact ⟨k + 1, by omega, by simp, by rw [HST.out, if_pos hle], ((HHR.out.alloc _).tail).drewN _⟩
      · have hle2 : ¬ (p : Int) + (sx : Int) ≤ (kp : Int) := by omega
        go_wp2_with fail
        go_quiet (fail)
        go_wp2_with fail
        go_roundg gj
        case measure => omega
        case rel => exact ⟨k + 1, by omega, by simp, by rw [HST.out, if_neg hle], ((HHR.out.alloc _).tail).drewN _⟩
    · have hkn : k = n := by omega
      have e : G.l.take k = G.l := by rw [hkn, ← HN.out]; exact List.take_length
      rw [e]
      have HHR := Lib.hid hHr
      clear hHr e
      go_wp2_with fail
      go_ret
      exact ⟨rfl, HHR.out⟩
end

end Go.Proofs.YtncjffkpkmjgkaaGreatDoor.Sg

/-! Lw -/
namespace Go.Proofs.YtncjffkpkmjgkaaGreatDoor.Sg
open Go.RowKit Er Go.Maps

/-- Row's batches of at most twenty numbers. -/
theorem row20b (every : Nat) (xs : List Int) (base : Nat) (hb : base ≤ 1073741824) (hx : xs.length ≤ 20) : Chain base 0 (rowGo every xs 0 base) ∧ (∀ x, x ∈ rowGo every xs 0 base → BtOk x ∧ BtBy x) ∧ sizes (rowGo every xs 0 base) ≤ 1048576 ∧
    (base : Int) + (xs.length : Int) ≤ endOf base (rowGo every xs 0 base) ∧ endOf base (rowGo every xs 0 base) ≤ base + 5 * xs.length := by
  have hok := row_ok every xs 0 base (by omega) (by omega) (by omega)
  refine ⟨row_chain every xs 0 base 0 (by have := (rEp_mono every 0).2; omega), hok, ?_, ?_⟩
  · have h : ∀ L : List Bt, (∀ x, x ∈ L → BtOk x ∧ BtBy x) → sizes L ≤ L.length * 38816 := by
      intro L
      induction L with
      | nil => intro _; simp [sizes]
      | cons x L ih =>
        intro h
        have h1 := szB_le x (h x List.mem_cons_self).1
        have h2 := ih (fun y hy => h y (List.mem_cons_of_mem _ hy))
        simp only [sizes, List.map_cons, List.sum_cons, List.length_cons] at h2 ⊢
        omega
    have h1 := h _ hok
    rw [row_len] at h1
    omega
  · have h : ∀ (l : List Int) (i : Nat) (a : Int), a + (l.length : Int) ≤ endOf a (rowGo every l i a) ∧ endOf a (rowGo every l i a) ≤ a + 5 * l.length := by
      intro l
      induction l with
      | nil => intro i a; simp [rowGo, endOf]
      | cons s l ih =>
        intro i a
        obtain ⟨hp1, hp5⟩ := rN_pos s
        have := ih (i + 1) (a + (rN s : Int))
        show a + ((l.length + 1 : Nat) : Int) ≤ endOf a (rBt every s i a :: rowGo every l (i + 1) (a + (rN s : Int))) ∧ endOf a (rBt every s i a :: rowGo every l (i + 1) (a + (rN s : Int))) ≤ a + 5 * ((l.length + 1 : Nat) : Int)
        rw [endOf_cons, rBt_len, show (rBt every s i a).b = a from rfl]
        omega
    exact h xs 0 base

end Go.Proofs.YtncjffkpkmjgkaaGreatDoor.Sg
