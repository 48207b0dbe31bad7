/- seg.Raw; refusals of Append, Read and Create. rec.All; what cannot be read. seg.Open. The reference's Next. Open, Create of a disk that is in order; what a read of all tells. -/
import Derived.Test.YtncjffkpkmjgkaaGreatDoorMf
import Derived.Test.YtncjffkpkmjgkaaGreatDoorMe

/-! Gk -/
namespace Go.Proofs.YtncjffkpkmjgkaaGreatDoor.Sg
open Go.RowKit Er Go.Maps

section
variable {S : List Nat} {E : Nat → Addr} {B : Nat} {P : Pm} {s d : Nat} {G : Sg} {D : Dk} {A Ad F : Mm} {w : World}

theorem dread0 (C : Ctx S E B P) (hD : DkM P d D A) (hH : Hp w P (A ++ F)) (s : Nam) (hs : s.length ≤ 1099511627776) (b : Nat) (h : D.file s = .ok b) (f : Fl) (hf : ffind D.fl b = some f) (hb : f.b.length ≤ 1099511627776) (n : Nat) (hn : n ≤ f.b.length) :
    Calls Tryz.prog 57 #[ptr d, str s, .int .i64 0, .int .i64 n] w fun e w' => ∃ v P', e = .returned (.tuple #[v, .nilIface]) ∧ Sub P P' ∧ Pers P' (fun w => SlB w v (f.b.take n)) ∧ Hp w' P' (A ++ F) := by
  have := dread_ok C hD hH s hs b h f hf hb 0 n (by omega)
  simpa using this

set_option maxRecDepth 100000 in
set_option maxHeartbeats 1000000 in
theorem sraw_on (C : Ctx S E B P) (hG : SgM s G A) (hO : SegOn D G) (hD : DkM P G.d D Ad) (hH : Hp w P (A ++ (Ad ++ F))) :
    Calls Tryz.prog 19 #[ptr s] w fun e w' => ∃ v P', e = .returned (.tuple #[v, .nilIface]) ∧ Sub P P' ∧ Pers P' (fun w => SlB w v (flatB G.l)) ∧ Hp w' P' (A ++ (Ad ++ F)) := by
  obtain ⟨f, h1, h2, h3⟩ := hO.f
  have hlen : f.b.length ≤ D.used := used_ge h1
  have hr := hO.room
  have hu := hO.used
  have hnm := hO.nm
  have hsz : sizes G.l = f.b.length := by rw [h2, flatB_len]
  have HFB : Hid (f.b.take (sizes G.l) = flatB G.l) := by show _ = _; rw [hsz, List.take_length, h2]
  obtain ⟨n, hn⟩ : ∃ n, sizes G.l = n := ⟨_, rfl⟩
  rw [hn] at hsz HFB
  obtain ⟨lv, c0, c1, -, -, -, -⟩ := hG.cells hH
  have HF := Lib.hid (hO.I.file_ok h1)
  have HL := Lib.hid (look_some h1).2
  have HO := Lib.hid hO
  have HN := Lib.hid hn
  have H0 := Lib.hid hH
  have hle : n ≤ f.b.length := by omega
  have hle2 : f.b.length ≤ 1099511627776 := by omega
  clear h1 h2 h3 hn hH hO hsz
  go_enter Tryz.func19, Tryz.ntmps19
  go_wp2_with fail
  go_region_held3 (fun w' => w'.cell? ⟨s, 0, none⟩ = some (ptr G.d) ∧ w'.cell? ⟨s, 1, none⟩ = some (str G.nm))
    (first
      | go_keep
      | exact ⟨k0, k1⟩)
    (first
      | (go_at_call 18
         with_reducible refine (ssize_any hG HO.out.W H0.out.drew).mono ?_
         rintro e w1 ⟨rfl, hH1⟩
         rw [HN.out]
         obtain ⟨lv2, k0, k1, -, -, -, -⟩ := hG.cells hH1)
      | (go_at_call 57
         with_reducible refine (dread0 C hD (Hp.mid hH1) G.nm (by omega) f.blk HF.out f HL.out hle2 n hle).mono ?_
         rintro e w2 ⟨v2, P2, rfl, hs2, hp2, hH2⟩
         have hH3 := Hp.mid hH2
         obtain ⟨lv3, k0, k1, -, -, -, -⟩ := hG.cells hH3))
  rw [HFB.out] at hp2
  have H3 := Lib.hid hH3
  have HP := Lib.hid hp2
  have HS := Lib.hid hs2
  clear hH1 hH2 hH3 hp2 hs2
  go_wp2_with fail
  go_ret2
  exact ⟨v2, P2, rfl, HS.out, HP.out, H3.out⟩

set_option maxRecDepth 100000 in
set_option maxHeartbeats 400000 in
theorem sappend_invalid (C : Ctx S E B P) (x : Bt) (hn : x.r.length ≤ 1099511627776) (hbad : vcode x ≠ 0) (v : Value) (hv : Pers P (fun w => BtV w v x)) (hH : Hp w P F) :
    Calls Tryz.prog 91 #[ptr s, v] w fun e w' => e = .returned (ev E (vcode x)) ∧ Hp w' P F := by
  obtain ⟨rs, rfl, -⟩ := hH.use hv
  have hH0 := (hH.alloc (.cells #[.int .i64 x.b, .int .i64 x.e, rs] 38)).tail
  have hvs := hH.use hv
  obtain ⟨r', h1, h2⟩ := hvs
  obtain ⟨ra, rc, hra⟩ := h2.shape
  obtain rfl : rs = r' := by simpa using h1
  subst hra
  have hc : ∃ i, vcode x = 101 + i := by
    unfold vcode at hbad ⊢
    split
    · exact ⟨3, rfl⟩
    split
    · exact ⟨4, rfl⟩
    split
    · rename_i h3 h4 h5; rw [if_neg h3, if_neg h4, if_pos h5] at hbad; exact absurd rfl hbad
    · exact ⟨4, rfl⟩
  obtain ⟨i, hi⟩ := hc
  have H0 := Lib.hid hH0
  have HV := Lib.hid hv
  have HB := Lib.hid hbad
  have HI := Lib.hid hi
  clear hH hH0 hv h1 h2 hbad hi
  go_enter Tryz.func91, Tryz.ntmps91
  go_wp2_with fail
  refine (bytes_bad (C.all 3 (by decide)) (C.all 4 (by decide)) x hn HB.out _ _ (H0.out.use C.errs) (H0.out.use HV.out)).mono ?_
  rintro e w1 ⟨rfl, hb1⟩
  rw [HI.out, ev_some E i]
  have H1 := Lib.hid (H0.out.below hb1 (Nat.le_refl _))
  clear hb1
  go_wp2_with fail
  go_ret
  exact ⟨by rw [HI.out, ev_some E i]; rfl, H1.out⟩

set_option maxRecDepth 100000 in
set_option maxHeartbeats 1000000 in
theorem sappend_shape (C : Ctx S E B P) (hG : SgM s G A) (hO : SegOn D G) (x : Bt) (hok : BtOk x) (hby : BtBy x) (v : Value) (hv : Pers P (fun w => BtV w v x)) (hf : G.foll x = false) (hH : Hp w P (A ++ F)) :
    Calls Tryz.prog 91 #[ptr s, v] w fun e w' => e = .returned (.iface 289 (.pointer (some (E 2)))) ∧ ∃ P', Sub P P' ∧ Hp w' P' (A ++ F) := by
  obtain ⟨rs, rfl, h2⟩ := hH.use hv
  obtain ⟨ra, rc, rfl⟩ := h2.shape
  have hH0 : Hp (w.alloc (.cells #[.int .i64 x.b, .int .i64 x.e, .slice ra x.r.length rc] 38)) P (A ++ ((w.heap.size, .cells #[.int .i64 x.b, .int .i64 x.e, .slice ra x.r.length rc] 38 (0, 0)) :: F)) :=
    Hp.mid (A := [(w.heap.size, Obj.cells #[.int .i64 x.b, .int .i64 x.e, .slice ra x.r.length rc] 38 (0, 0))]) (B := A) (C := F) (hH.alloc _)
  have H0 := Lib.hid hH0
  have HV := Lib.hid hv
  have HO := Lib.hid hO
  have HK := Lib.hid hok
  have HF := Lib.hid hf
  clear hH hH0 hv h2 hO hok hf
  go_enter Tryz.func91, Tryz.ntmps91
  go_wp2_with fail
  refine (bytes_ok (C.all 3 (by decide)) (C.all 4 (by decide)) x HK.out hby _ _ (H0.out.use C.errs) (H0.out.use HV.out)).mono ?_
  rintro e w1 ⟨⟨v1, rfl, hown⟩, hb1⟩
  have hH1 := H0.out.below hb1 (Nat.le_refl _)
  have c0 : w1.cell? ⟨w.heap.size, 0, none⟩ = some (.int .i64 x.b) := (@Hp.cell _ _ _ hH1 w.heap.size #[.int .i64 x.b, .int .i64 x.e, .slice ra x.r.length rc] 38 (0, 0) (by simp)) rfl
  have c1 : w1.cell? ⟨w.heap.size, 1, none⟩ = some (.int .i64 x.e) := (@Hp.cell _ _ _ hH1 w.heap.size #[.int .i64 x.b, .int .i64 x.e, .slice ra x.r.length rc] 38 (0, 0) (by simp)) rfl
  have c2 : w1.cell? ⟨w.heap.size, 2, none⟩ = some (.slice ra x.r.length rc) := (@Hp.cell _ _ _ hH1 w.heap.size #[.int .i64 x.b, .int .i64 x.e, .slice ra x.r.length rc] 38 (0, 0) (by simp)) rfl
  have H1 := Lib.hid hH1
  clear hown hb1 hH1
  go_wp2_with fail
  refine (follows_any hG HO.out.W x _ HV.out H1.out).mono ?_
  rintro e w2 ⟨rfl, hH2⟩
  rw [HF.out]
  have ce : w2.cell? ⟨5, 0, none⟩ = some (.iface 289 (.pointer (some (E 2)))) := (hH2.use C.errs).at_ 2 (C.all 2 (by decide))
  have H2 := Lib.hid hH2
  clear hH2 c0 c1 c2
  go_wp2_with fail
  go_ret
  refine ⟨rfl, P, Sub.refl P, ?_⟩
  have := Hp.mid (A := A) (B := [(w.heap.size, Obj.cells #[.int .i64 x.b, .int .i64 x.e, .slice ra x.r.length rc] 38 (0, 0))]) (C := F) H2.out
  exact this.tail

set_option maxRecDepth 100000 in
set_option maxHeartbeats 1000000 in
theorem sappend_full (C : Ctx S E B P) (hG : SgM s G A) (hO : SegOn D G) (hD : DkM P G.d D Ad) (x : Bt) (hok : BtOk x) (hby : BtBy x) (v : Value) (hv : Pers P (fun w => BtV w v x)) (hf : G.foll x = true) (hroom : D.room < D.used + szB x) (hH : Hp w P (A ++ (Ad ++ F))) :
    Calls Tryz.prog 91 #[ptr s, v] w fun e w' => e = .returned (.iface 289 (.pointer (some (E 8)))) ∧ ∃ P' Ad', Sub P P' ∧ DkM P' G.d D Ad' ∧ Hp w' P' (A ++ (Ad' ++ F)) := by
  obtain ⟨f, l1, l2, l3⟩ := hO.f
  have hr := hO.room
  have hu := hO.used
  have hnm := hO.nm
  obtain ⟨rs, rfl, h2⟩ := hH.use hv
  obtain ⟨ra, rc, rfl⟩ := h2.shape
  have hsz := szB_le x hok
  have hH0 : Hp (w.alloc (.cells #[.int .i64 x.b, .int .i64 x.e, .slice ra x.r.length rc] 38)) P (A ++ (Ad ++ ((w.heap.size, .cells #[.int .i64 x.b, .int .i64 x.e, .slice ra x.r.length rc] 38 (0, 0)) :: F))) := by
    have := Hp.mid (A := [(w.heap.size, Obj.cells #[.int .i64 x.b, .int .i64 x.e, .slice ra x.r.length rc] 38 (0, 0))]) (B := A ++ Ad) (C := F) (by simpa [List.append_assoc] using hH.alloc (.cells #[.int .i64 x.b, .int .i64 x.e, .slice ra x.r.length rc] 38))
    simpa [List.append_assoc] using this
  have H0 := Lib.hid hH0
  have HV := Lib.hid hv
  have HO := Lib.hid hO
  have HK := Lib.hid hok
  have HF := Lib.hid hf
  have HL := Lib.hid (hO.I.find_ok l1)
  clear hH hH0 hv h2 hO hok hf l1 l2 l3
  go_enter Tryz.func91, Tryz.ntmps91
  go_wp2_with fail
  refine (bytes_ok (C.all 3 (by decide)) (C.all 4 (by decide)) x HK.out hby _ _ (H0.out.use C.errs) (H0.out.use HV.out)).mono ?_
  rintro e w1 ⟨⟨v1, rfl, hown⟩, hb1⟩
  obtain ⟨A1, hr1, hH1⟩ := Hp.rowNew H0.out (H0.out.below hb1 (Nat.le_refl _)) hown (Nat.le_refl _)
  obtain ⟨P1, hs1, hH2, hp1⟩ := Hp.sealBytes hH1 hr1
  obtain ⟨va, vc, rfl, -⟩ := (hH2.use hp1).shape
  rw [show (batB x).length = szB x from rfl]
  have c0 : w1.cell? ⟨w.heap.size, 0, none⟩ = some (.int .i64 x.b) := (@Hp.cell _ _ _ hH2 w.heap.size #[.int .i64 x.b, .int .i64 x.e, .slice ra x.r.length rc] 38 (0, 0) (by simp)) rfl
  have c1 : w1.cell? ⟨w.heap.size, 1, none⟩ = some (.int .i64 x.e) := (@Hp.cell _ _ _ hH2 w.heap.size #[.int .i64 x.b, .int .i64 x.e, .slice ra x.r.length rc] 38 (0, 0) (by simp)) rfl
  have c2 : w1.cell? ⟨w.heap.size, 2, none⟩ = some (.slice ra x.r.length rc) := (@Hp.cell _ _ _ hH2 w.heap.size #[.int .i64 x.b, .int .i64 x.e, .slice ra x.r.length rc] 38 (0, 0) (by simp)) rfl
  have H2 := Lib.hid hH2
  have HS1 := Lib.hid hs1
  clear hb1 hown hr1 hH1 hH2 hp1 hs1
  go_wp2_with fail
  refine (follows_any hG HO.out.W x _ (HV.out.sub HS1.out) H2.out).mono ?_
  rintro e w2 ⟨rfl, hH3⟩
  rw [HF.out]
  obtain ⟨lv, d0, d1, -, -, -, -, -, -⟩ := hG.cells hH3
  have H3 := Lib.hid hH3
  clear hH3 c0 c1 c2
  go_wp2_with fail
  go_region_held3 (fun w' => w'.cell? ⟨s, 0, none⟩ = some (ptr G.d) ∧ w'.cell? ⟨s, 1, none⟩ = some (str G.nm))
    (first
      | go_keep
      | exact ⟨k0, k1⟩)
    (first
      | (go_at_call 12
         with_reducible refine (dappend_full (C.sub HS1.out) (hD.sub HS1.out) HO.out.I.w (Hp.mid H3.out).drew G.nm (by omega) f.blk HL.out va (szB x) vc (by omega) (by omega) (by omega) hroom).mono ?_
         rintro e w3 ⟨rfl, Ad2, hD2, hH4⟩
         have hH5 := Hp.mid hH4
         obtain ⟨lv2, k0, k1, -, -, -, -, -, -⟩ := hG.cells hH5))
  rw [HO.out.I.beg] at hD2
  have H5 := Lib.hid hH5
  have HD2 := Lib.hid hD2
  clear hH4 hH5 hD2
  go_wp2_with fail
  go_ret
  refine ⟨rfl, P1, Ad2, HS1.out, HD2.out, ?_⟩
  have hz := Hp.drop (Hp.mid (A := A ++ Ad2) (B := [(w.heap.size, Obj.cells #[.int .i64 x.b, .int .i64 x.e, .slice ra x.r.length rc] 38 (0, 0))]) (C := F) (by simpa [List.append_assoc] using H5.out))
  simpa [List.append_assoc] using hz
end

end Go.Proofs.YtncjffkpkmjgkaaGreatDoor.Sg

/-! Gm -/
namespace Go.Proofs.YtncjffkpkmjgkaaGreatDoor.Sg
open Go.RowKit Er Go.Maps

/-- A read that reads no batch. -/
def NoRd (E : Nat → Addr) (P : Pm) (F : Mm) (e : Ending) (w' : World) : Prop :=
  ∃ (i : Nat) (P' : Pm), e = .returned (.tuple #[.agg #[.int .i64 0, .int .i64 0, .slice none 0 0], .int .i64 0, .iface 289 (.pointer (some (E i)))]) ∧ Sub P P' ∧ Hp w' P' F
/-- Bytes of which rec.Read reads no batch. -/
def RdBad (S : List Nat) (E : Nat → Addr) (B : Nat) (t : List Nat) : Prop :=
  ∀ (P : Pm) (F : Mm) (w : World) (v : Value), Ctx S E B P → Hp w P F → SlB w v t → Calls Tryz.prog 110 #[v] w (NoRd E P F)

theorem flatB_take (l : List Bt) (k : Nat) (h : k < l.length) (t : List Nat) : (flatB l ++ t).drop (sizes (l.take k)) = batB l[k] ++ (flatB (l.drop (k + 1)) ++ t) := by
  have e : l = l.take k ++ (l[k] :: l.drop (k + 1)) := (take_split l k h).symm
  have e2 : flatB l = flatB (l.take k) ++ (batB l[k] ++ flatB (l.drop (k + 1))) := by
    conv => lhs; rw [e]
    rw [flatB_app]; rfl
  rw [e2, ← flatB_len, List.append_assoc, List.drop_left, List.append_assoc]

/-- What holds at the head of rec.All's loop. -/
def AllRel (P : Pm) (F : Mm) (l : List Bt) (m : Nat) (vo va : Value) (w : World) : Prop :=
  ∃ (k : Nat) (out : List (Bt × Value)) (P' : Pm) (A : Mm), k + m = l.length + 1 ∧ va = .int .i64 (sizes (l.take k)) ∧ k ≤ l.length ∧ Sub P P' ∧ BtsM P' vo (l.take k) out A ∧ Hp w P' (A ++ F)
/-- What rec.All comes to. -/
def AllPost (P : Pm) (F : Mm) (l : List Bt) (e : Ending) (w' : World) : Prop :=
  ∃ v er out P' A, e = .returned (.tuple #[v, .int .i64 (sizes l), er]) ∧ (∃ a b, er = .iface a b ∨ er = .nilIface) ∧ Sub P P' ∧ BtsM P' v l out A ∧ Hp w' P' (A ++ F)

set_option maxRecDepth 100000 in
set_option maxHeartbeats 400000 in
theorem recall_ok {S : List Nat} {E : Nat → Addr} {B : Nat} {P : Pm} {F : Mm} {w : World} (C : Ctx S E B P) (l : List Bt) (t : List Nat) (hl : ∀ x, x ∈ l → BtOk x ∧ BtBy x) (ht : t = [] ∨ RdBad S E B t) (v : Value)
    (hv : Pers P (fun w => SlB w v (flatB l ++ t))) (hlen : (flatB l ++ t).length ≤ 1099511627776) (hll : l.length ≤ 1000000) (hH : Hp w P F) :
    Calls Tryz.prog 58 #[v] w (AllPost P F l) := by
  obtain ⟨xs, hxs⟩ : ∃ xs, flatB l ++ t = xs := ⟨_, rfl⟩
  rw [hxs] at hv hlen
  obtain ⟨va, vc, rfl, hvc⟩ := (hH.use hv).shape
  have hxl : xs.length = sizes l + t.length := by rw [← hxs, List.length_append, flatB_len]
  have H0 := Lib.hid hH
  have HV := Lib.hid hv
  have HXS := Lib.hid hxs
  have HT := Lib.hid ht
  have HL := Lib.hid hl
  obtain ⟨n, hn⟩ : ∃ n, xs.length = n := ⟨_, rfl⟩
  rw [hn] at hlen hxl hvc ⊢
  have HN := Lib.hid hn
  have hnl : sizes l ≤ n := by omega
  have HXL := Lib.hid hxl
  clear hH hv hxs ht hn hxl hl
  go_enter Tryz.func58, Tryz.ntmps58
  go_wp2_with fail
  go_loopg [5, 6] (l.length + 1) (fun m vo va wr => AllRel P F l m vo va wr)
  case atStart => exact ⟨0, [], P, [], by omega, rfl, by omega, Sub.refl P, BtsM.nil P, H0.out⟩
  case round =>
    obtain ⟨k, out, P1, A, hk, rfl, hkl, hs1, hbm, hHr⟩ := hrel
    obtain ⟨oa, oc, rfl⟩ := hbm.row.shape
    have hkt : (l.take k).length = k := by rw [List.length_take, Nat.min_eq_left hkl]
    rw [hkt]
    obtain ⟨p, hp⟩ : ∃ p, sizes (l.take k) = p := ⟨_, rfl⟩
    rw [hp]
    have hrow : RowM 38 3 (.slice oa k oc) k (btsV out) A := by
      have := hbm.row
      rw [hkt] at this; exact this
    by_cases hlt : k < l.length
    · obtain ⟨gj, rfl⟩ : ∃ x, gk = x + 1 := ⟨gk - 1, by omega⟩
      have hps := sizes_take l k hlt
      rw [hp] at hps
      have hpos := szB_pos l[k]
      have hdrop := flatB_take l k hlt t
      rw [HXS.out, hp] at hdrop
      obtain ⟨x, hx⟩ : ∃ x, l[k] = x := ⟨_, rfl⟩
      obtain ⟨hxo, hxb⟩ := HL.out x (by rw [← hx]; exact List.getElem_mem hlt)
      have htn := take_next l k hlt
      rw [hx] at hps hpos hdrop htn
      obtain ⟨g, off, cap, hvv, hg, -⟩ := slB_cell (hHr.use (HV.out.sub hs1)) (k := p) (by have := HN.out; omega)
      have hvn := HN.out
      simp only [Value.slice.injEq] at hvv
      obtain ⟨rfl, -, rfl⟩ := hvv
      have hsub : SlB wr (.slice (some ⟨g, off + p, none⟩) (n - p) (vc - p)) (batB x ++ (flatB (l.drop (k + 1)) ++ t)) := by
        have h1 := hHr.use (HV.out.sub hs1)
        rw [HN.out] at h1
        have h2 := h1.drop (p := p) (by omega) (m := n - p) (by omega) (vc - p) (by omega)
        rw [← hdrop]
        rw [List.take_of_length_le (by rw [List.length_drop]; omega)] at h2
        exact h2
      have hsl : (batB x ++ (flatB (l.drop (k + 1)) ++ t)).length ≤ 1099511627776 := by rw [← hdrop, List.length_drop]; omega
      have j1 : (p : Int) < (n : Int) := by omega
      have j2 : (0 : Int) ≤ (p : Int) := by omega
      have j3 : (p : Int) ≤ (n : Int) := by omega
      have j4 : (p : Int) ≤ (vc : Int) := by omega
      have j5 : ¬ vc = p := by omega
      have j6 : p ≤ n := by omega
      have hrow2 := Lib.hid hrow
      have HBM := Lib.hid hbm
      have HHr := Lib.hid hHr
      have HSB := Lib.hid hsub
      have HSL := Lib.hid hsl
      have HTN := Lib.hid htn
      have HP := Lib.hid hp
      have HKT := Lib.hid hkt
      clear hrow hbm hHr hsub hsl htn hp hdrop hx hkt hvn
      go_wp2_with fail
      refine (recread_ok (C.all 3 (by decide)) (C.all 4 (by decide)) x hxo hxb (ids (A ++ F)) _ _ wr (HHr.out.ids_lt) (HHr.out.use (C.sub hs1).errs) HSB.out HSL.out).mono ?_
      rintro e w1 ⟨⟨rs, rfl, hro⟩, hb1⟩
      obtain ⟨P2, hs2, hH3, hp3⟩ := Hp.sealRcs (HHr.out.below hb1 (Nat.le_refl _)) hro
      obtain ⟨ra, rc, rfl⟩ := (hH3.use hp3).plain.shape
      have hH4 := (hH3.alloc (.cells #[.int .i64 x.b, .int .i64 x.e, .slice ra x.r.length rc] 38)).tail
      have H4 := Lib.hid hH4
      have HP3 := Lib.hid hp3
      have HS2 := Lib.hid hs2
      rw [show (batB x).length = szB x from rfl]
      obtain ⟨sz, hsz⟩ : ∃ sz, szB x = sz := ⟨_, rfl⟩
      rw [hsz] at hps hpos ⊢
      have HSZ := Lib.hid hsz
      clear hb1 hro hH3 hp3 hH4 hs2 hsz
      go_wp2_with (at_builtin; refine wpList_push_hp rfl _ _ _ rfl 38 _ 3 40 Tryz.underlying33 infoBt rfl (by omega) (.slice oa k oc) k (btsV out) rfl H4.out hrow2.out #[.int .i64 x.b, .int .i64 x.e, .slice ra x.r.length rc] (by show Value.slice (some ⟨w1.heap.size + 1, 0, none⟩) 1 1 = _; rw [World.alloc_size']) rfl (by intro u hu; simp at hu; rcases hu with rfl | rfl | rfl <;> rfl) (by omega) (by omega) ?_)
      intro ga ca w7 A7 hr7 hH8
      have hrel7 : AllRel P F l gj (.slice (some ⟨ga, 0, none⟩) (k + 1) ca) (.int .i64 ((p : Int) + (sz : Int))) w7 := by
        refine ⟨k + 1, out ++ [(x, .slice ra x.r.length rc)], P2, A7, by omega, ?_, by omega, hs1.trans HS2.out, ?_, hH8⟩
        · rw [HTN.out, sizes_app, HP.out]
          simp [sizes, HSZ.out]
        · rw [HTN.out]
          refine ⟨by rw [List.map_append, HBM.out.map]; rfl, ?_, ?_⟩
          · rw [btsV_app, List.length_append, HKT.out]; exact hr7
          · intro w8 hw8 q hq
            rcases List.mem_append.1 hq with hq | hq
            · exact HBM.out.rs w8 (hw8.sub HS2.out) q hq
            · rw [List.mem_singleton.1 hq]
              exact (HP3.out w8 hw8).sub (fun k hk => by cases hk)
      have HR7 := Lib.hid hrel7
      clear hr7 hH8 hrel7
      go_wp2_with fail
      go_roundg gj
      case measure => omega
      case rel => exact HR7.out
    · obtain rfl : k = l.length := by omega
      have htl : l.take l.length = l := List.take_length
      rw [htl] at hp hbm
      have hdrop : xs.drop p = t := by
        have := HXS.out
        rw [← this, ← hp, ← flatB_len, List.drop_left]
      have hxl := HXL.out
      have HBM := Lib.hid hbm
      have HHr := Lib.hid hHr
      have HP := Lib.hid hp
      have HD := Lib.hid hdrop
      clear hbm hHr hp hdrop hkt hrow htl
      by_cases htz : t.length = 0
      · have k1 : ¬ (p : Int) < (n : Int) := by have := HP.out; omega
        have k2 : ¬ p < n := by have := HP.out; omega
        clear htz hxl
        go_wp2_with fail
        exact bodyPost_ret (v := .tuple #[.slice oa l.length oc, .int .i64 p, .nilIface]) (by simp [results, Tryz.results58, go_sem]) rfl ⟨_, .nilIface, out, P1, A, by rw [HP.out], ⟨0, .nilIface, .inr rfl⟩, hs1, HBM.out, HHr.out⟩
      · have hbad : RdBad S E B t := by
          rcases HT.out with h | h
          · exact absurd (by rw [h]; rfl) htz
          · exact h
        have hpn : p < n := by have := HP.out; omega
        obtain ⟨g, off, cap, hvv, hg, -⟩ := slB_cell (HHr.out.use (HV.out.sub hs1)) (k := p) (by have := HN.out; omega)
        have hvn := HN.out
        simp only [Value.slice.injEq] at hvv
        obtain ⟨rfl, -, rfl⟩ := hvv
        have hsub : SlB wr (.slice (some ⟨g, off + p, none⟩) (n - p) (vc - p)) t := by
          have h1 := HHr.out.use (HV.out.sub hs1)
          rw [HN.out] at h1
          have h2 := h1.drop (p := p) (by omega) (m := n - p) (by omega) (vc - p) (by omega)
          rw [HD.out, List.take_of_length_le (by have := HP.out; omega)] at h2
          exact h2
        have j1 : (p : Int) < (n : Int) := by omega
        have j2 : (0 : Int) ≤ (p : Int) := by omega
        have j3 : (p : Int) ≤ (n : Int) := by omega
        have j4 : (p : Int) ≤ (vc : Int) := by omega
        have j5 : ¬ vc = p := by omega
        have j6 : p ≤ n := by omega
        have HSB := Lib.hid hsub
        clear hsub hvn htz hxl
        go_wp2_with fail
        have hcl : Calls Tryz.prog 110 #[.slice (some ⟨g, off + p, none⟩) (n - p) (vc - p)] wr (NoRd E P1 (A ++ F)) := hbad P1 (A ++ F) wr _ (C.sub hs1) HHr.out HSB.out
        refine hcl.mono ?_
        intro e w1 h
        obtain ⟨i, P2, he, hs2, hH2⟩ := h
        subst he
        have H2 := Lib.hid hH2.alloc
        have HS2 := Lib.hid hs2
        clear hH2 hs2
        go_wp2_with fail
        exact bodyPost_ret (v := .tuple #[.slice oa l.length oc, .int .i64 p, .iface 289 (.pointer (some (E i)))]) (by simp [results, Tryz.results58, go_sem]) rfl ⟨_, _, out, P2, A, by rw [HP.out], ⟨_, _, .inl rfl⟩, hs1.trans HS2.out, HBM.out.sub HS2.out, (H2.out _).tail⟩

end Go.Proofs.YtncjffkpkmjgkaaGreatDoor.Sg

/-! Go -/
namespace Go.Proofs.YtncjffkpkmjgkaaGreatDoor.Sg
open Go.RowKit Er Go.Maps

/-- The batches that follow one another. -/
def folN : Int → Int → List Bt → List Bt
  | _, _, [] => []
  | b, e, x :: l => if x.b = b ∧ e ≤ x.e then x :: folN (x.b + x.r.length) x.e l else []
theorem folN_chain : ∀ (l : List Bt) (b e : Int), Chain b e l → folN b e l = l
  | [], _, _, _ => rfl
  | x :: l, b, e, ⟨h1, h2, h3⟩ => by unfold folN; rw [if_pos ⟨h1, h2⟩, folN_chain l _ _ h3]
theorem folN_pre : ∀ (l : List Bt) (b e : Int), folN b e l <+: l
  | [], _, _ => List.prefix_refl _
  | x :: l, b, e => by
    unfold folN
    split
    · exact List.prefix_cons_inj x |>.2 (folN_pre l _ _)
    · exact List.nil_prefix
theorem chain_folN : ∀ (l : List Bt) (b e : Int), Chain b e (folN b e l)
  | [], _, _ => trivial
  | x :: l, b, e => by
    unfold folN
    split
    · rename_i h; exact ⟨h.1, h.2, chain_folN l _ _⟩
    · trivial

/-- What Open makes of a disk. -/
def Dk.opened (D : Dk) (f : Fl) (m : Nat) : Dk := if m < f.b.length then (D.cut f m).sync { f with b := f.b.take m, s := m } else D.sync f
theorem opened_ok {D : Dk} (hI : DkI D) {s : Nam} {f : Fl} (h : D.look s = some f) (m : Nat) (hm : m ≤ f.b.length) : DkI (D.opened f m) ∧ (∀ s', (D.opened f m).look s' = if s' = s then some { f with b := f.b.take m, s := m } else D.look s') ∧
    (D.opened f m).used + f.b.length = D.used + m ∧ DkSame D (D.opened f m) := by
  unfold Dk.opened
  by_cases hc : m < f.b.length
  · rw [if_pos hc]
    have hI1 := cut_I hI f m
    have hl1 : (D.cut f m).look s = some { f with b := f.b.take m, s := m } := by rw [cut_look hI h, if_pos rfl]
    have s1 := cut_same hI f m
    have s2 := sync_same hI1 { f with b := f.b.take m, s := m }
    refine ⟨sync_I hI1 _, fun s' => ?_, ?_, ⟨s2.room.trans s1.room, s2.nml.trans s1.nml, s2.n.trans s1.n, Nat.le_trans s2.ch s1.ch, s2.nmq.trans s1.nmq, fun h => s2.kpq (s1.kpq h)⟩⟩
    · rw [sync_look hI1 hl1]
      split
      · simp only [List.length_take, Nat.min_eq_left hm]
      · rename_i hne; rw [cut_look hI h, if_neg hne]
    · rw [sync_used hI1 hl1, cut_used hI h m hm]
  · rw [if_neg hc]
    obtain rfl : m = f.b.length := by omega
    refine ⟨sync_I hI _, fun s' => ?_, by rw [sync_used hI h], sync_same hI f⟩
    rw [sync_look hI h, List.take_length]

/-- What holds at the head of Open's loop. -/
def OpRel (P : Pm) (Ad F : Mm) (d s base every : Nat) (l : List Bt) (m : Nat) (vi : Value) (w : World) : Prop :=
  ∃ (k : Nat) (A : Mm), k + m = l.length ∧ vi = .int .i64 k ∧ SgM s ⟨d, segNm base, base, every, l.take k, 0⟩ A ∧
    folN base 0 l = l.take k ++ folN (endOf base (l.take k)) (epOf 0 (l.take k)) (l.drop k) ∧ Hp w P (A ++ (Ad ++ F))

section
variable {S : List Nat} {E : Nat → Addr} {B : Nat} {P : Pm} {d : Nat} {D : Dk} {A F : Mm} {w : World}

theorem dlen_hp (C : Ctx S E B P) (hD : DkM P d D A) (hH : Hp w P (A ++ F)) (s : Nam) (hs : s.length ≤ 1099511627776) (b : Nat) (h : D.file s = .ok b) (f : Fl) (hf : ffind D.fl b = some f) :
    Calls Tryz.prog 56 #[ptr d, str s] w fun e w' => e = .returned (.tuple #[.int .i64 f.b.length, .nilIface]) ∧ Hp w' P (A ++ F) := by
  refine (len_ok C hD hH s hs b h f hf).mono ?_
  rintro e w' ⟨rfl, n, rfl⟩
  exact ⟨rfl, hH.drewN n⟩

theorem recall_x {F : Mm} (C : Ctx S E B P) (l : List Bt) (t xs : List Nat) (hx : flatB l ++ t = xs) (hl : ∀ x, x ∈ l → BtOk x ∧ BtBy x) (ht : t = [] ∨ RdBad S E B t) (v : Value)
    (hv : Pers P (fun w => SlB w v xs)) (hlen : xs.length ≤ 1099511627776) (hll : l.length ≤ 1000000) (hH : Hp w P F) : Calls Tryz.prog 58 #[v] w (AllPost P F l) := by
  subst hx
  exact recall_ok C l t hl ht v hv hlen hll hH

set_option maxRecDepth 100000 in
set_option maxHeartbeats 400000 in
theorem sopen_ok (C : Ctx S E B P) (hD : DkM P d D A) (hI : DkI D) (base : Nat) (hb : base ≤ 1099511627776) (every : Nat) (h1 : 1 ≤ every) (h2 : every ≤ 1048576) (f : Fl) (hl : D.look (segNm base) = some f)
    (hroom : D.room ≤ 4194304) (hused : D.used ≤ D.room) (l : List Bt) (t : List Nat) (hfb : f.b = flatB l ++ t) (hok : ∀ x, x ∈ l → BtOk x ∧ BtBy x) (ht : t = [] ∨ RdBad S E B t) (hH : Hp w P (A ++ F)) :
    Calls Tryz.prog 16 #[ptr d, .int .i64 base, .int .i64 every] w fun e w' => ∃ s P' As A', e = .returned (.tuple #[ptr s, .int .i64 ((f.b.length - sizes (folN base 0 l) : Nat) : Int), .nilIface]) ∧ Sub P P' ∧
      SgM s ⟨d, segNm base, base, every, folN base 0 l, sizes (folN base 0 l)⟩ As ∧ DkM P' d (D.opened f (sizes (folN base 0 l))) A' ∧ Hp w' P' (As ++ (A' ++ F)) := by
  have hlen : f.b.length ≤ D.used := used_ge hl
  obtain ⟨xs, hxs⟩ : ∃ xs, flatB l ++ t = xs := ⟨_, rfl⟩
  have hsz : sizes l + t.length = f.b.length := by rw [hfb, List.length_append, flatB_len]
  have hll := sizes_low l
  rw [hxs] at hfb
  have HXS := Lib.hid hxs
  obtain ⟨nm, hnm⟩ : ∃ nm, nm = segNm base := ⟨_, rfl⟩
  have hnl : nm.length ≤ 1099511627776 := by rw [hnm, segNm_len]; omega
  rw [← hnm] at hl
  obtain ⟨n, hn⟩ : ∃ n, f.b.length = n := ⟨_, rfl⟩
  rw [hn] at hsz hlen ⊢
  have hn4 : n ≤ 4194304 := by omega
  have HN := Lib.hid hn
  have HNM := Lib.hid hnm
  have HF := Lib.hid (hI.file_ok hl)
  have HFD := Lib.hid (hI.find_ok hl)
  have HL := Lib.hid hl
  have HL2 := Lib.hid (look_some hl).2
  have HFB := Lib.hid hfb
  have HOK := Lib.hid hok
  have HT := Lib.hid ht
  have HSZ := Lib.hid hsz
  have HI := Lib.hid hI
  have H0 := Lib.hid hH
  have hlb : sizes l ≤ n := by omega
  have hll2 : l.length ≤ 1000000 := by omega
  obtain ⟨q, hq⟩ : ∃ q, folN base 0 l = q := ⟨_, rfl⟩
  rw [hq]
  have HQ := Lib.hid hq
  have htn : t.length ≤ n := by omega
  clear hnm hl hfb hok ht hH hI hn hsz hq hll hxs
  go_enter Tryz.func16, Tryz.ntmps16
  go_wp2_with fail
  refine (fresh_ok (d := d) C base hb every h1 h2 H0.out).mono ?_
  rintro e w1 ⟨s, As, rfl, hG, hH1⟩
  rw [show sg0 d base every = ⟨d, nm, base, every, [], 0⟩ from by rw [HNM.out]; rfl] at hG
  obtain ⟨lv, -, k1, -, -, -, -⟩ := hG.cells hH1
  have H1 := Lib.hid hH1
  clear hH1
  go_wp2_with fail
  refine (dlen_hp C hD (Hp.mid H1.out) nm hnl f.blk HF.out f HL2.out).mono ?_
  rintro e w2 ⟨rfl, hH2⟩
  rw [HN.out]
  have hH3 := Hp.mid hH2
  obtain ⟨lv2, -, k2, -, -, -, -⟩ := hG.cells hH3
  have H3 := Lib.hid hH3
  clear hH2 hH3 k1
  go_wp2_with fail
  refine (dread0 C hD (Hp.mid H3.out) nm hnl f.blk HF.out f HL2.out (by have := HN.out; omega) n (by have := HN.out; omega)).mono ?_
  rintro e w3 ⟨v3, P3, rfl, hs3, hp3, hH4⟩
  have htk : f.b.take n = xs := by rw [List.take_of_length_le (by have := HN.out; omega), HFB.out]
  have hxn : xs.length = n := by rw [← HFB.out]; exact HN.out
  rw [htk] at hp3
  obtain ⟨va, vc, rfl, -⟩ := (hH4.use hp3).shape
  rw [hxn] at hp3 ⊢
  have H4 := Lib.hid (Hp.mid hH4)
  have HV3 := Lib.hid hp3
  have HS3 := Lib.hid hs3
  have hln : xs.length ≤ 1099511627776 := by omega
  clear hH4 hp3 hs3 k2 htk hxn
  go_wp2_with fail
  refine (recall_x (C.sub HS3.out) l t xs HXS.out HOK.out HT.out _ HV3.out hln hll2 H4.out).mono ?_
  rintro e w4 ⟨v4, er, out, P4, Ao, rfl, -, hs4, hbm, hH5⟩
  obtain ⟨P5, hs5, hbp, hH6⟩ := hbm.seal hH5
  have hmap := hbm.map
  obtain ⟨ua, uc, rfl, huc⟩ := hbp.shape
  have hol : out.length = l.length := by rw [← hmap, List.length_map]
  rw [hol] at hbp huc ⊢
  have H6 := Lib.hid hH6
  have HBP := Lib.hid hbp
  have HM := Lib.hid hmap
  have HOL := Lib.hid hol
  have HS5 := Lib.hid (HS3.out.trans (hs4.trans hs5))
  clear hs4 hbm hH5 hs5 hbp hH6 hmap hol
  go_wp2_with fail
  go_loopg [64] l.length (fun m vi wr => OpRel P5 A F d s base every l m vi wr)
  case atStart =>
    refine ⟨0, As, by omega, rfl, by rw [← HNM.out]; exact hG, ?_, H6.out⟩
    simp [endOf, epOf]
  case round =>
    obtain ⟨k, As2, hk, rfl, hG2, hfo, hHr⟩ := hrel
    rw [← HNM.out] at hG2
    have hokt : ∀ x, x ∈ l.take k → BtOk x ∧ BtBy x := fun x hx => HOK.out x (List.mem_of_mem_take hx)
    have hstk : sizes (l.take k) ≤ sizes l := by
      have : sizes l = sizes (l.take k) + sizes (l.drop k) := by rw [← sizes_app, List.take_append_drop]
      omega
    have hW2 : SgW ⟨d, nm, base, every, l.take k, 0⟩ := ⟨fun x hx => (hokt x hx).1, fun x hx => (hokt x hx).2, hb, by simp; omega, by show sizes (l.take k) ≤ _; omega⟩
    have hstep : (k < l.length ∧ (⟨d, nm, base, every, l.take k, 0⟩ : Sg).foll (l[k]?.getD ⟨0, 0, []⟩) = true) ∨ k = l.length ∨ (k < l.length ∧ (⟨d, nm, base, every, l.take k, 0⟩ : Sg).foll (l[k]?.getD ⟨0, 0, []⟩) = false) := by
      by_cases h : k < l.length
      · cases hc : (⟨d, nm, base, every, l.take k, 0⟩ : Sg).foll (l[k]?.getD ⟨0, 0, []⟩) with
        | true => exact .inl ⟨h, rfl⟩
        | false => exact .inr (.inr ⟨h, rfl⟩)
      · exact .inr (.inl (by omega))
    have HG2 := Lib.hid hG2
    have HW2 := Lib.hid hW2
    have HFO := Lib.hid hfo
    have HHr := Lib.hid hHr
    clear hG2 hW2 hfo hHr hokt hstk
    rcases hstep with ⟨hlt, hf⟩ | hexit
    · obtain ⟨gj, rfl⟩ : ∃ x, gk = x + 1 := ⟨gk - 1, by omega⟩
      have hko : k < out.length := by have := HOL.out; omega
      obtain ⟨g, off, cap, hvv, hcap, hbc⟩ := HBP.out.at_ hko
      simp only [Value.slice.injEq] at hvv
      obtain ⟨rfl, -, rfl⟩ := hvv
      have hx : (out[k]'hko).1 = l[k] := by have := HM.out; subst this; simp
      obtain ⟨x, hxd⟩ : ∃ x, x = l[k] := ⟨_, rfl⟩
      obtain ⟨p2, hp2⟩ : ∃ p2, (out[k]'hko).2 = p2 := ⟨_, rfl⟩
      obtain ⟨-, c0, c1, c2, hrc⟩ := HHr.out.use hbc
      have hbv : Pers P5 (fun w => BtV w (.agg #[.int .i64 x.b, .int .i64 x.e, p2]) x) := hbc.imp (fun w1 h => by
        obtain ⟨-, -, -, -, h5⟩ := h
        rw [hxd, ← hx, ← hp2]
        exact ⟨_, rfl, h5⟩)
      rw [hx, ← hxd] at c0 c1 hrc
      rw [hp2] at c2 hrc
      obtain ⟨pa, pc, rfl⟩ := hrc.shape
      rw [List.getElem?_eq_getElem hlt, Option.getD_some, ← hxd] at hf
      obtain ⟨hxo, hxb⟩ := HOK.out x (by rw [hxd]; exact List.getElem_mem hlt)
      have htn := take_next l k hlt
      rw [← hxd] at htn
      have hdr : l.drop k = x :: l.drop (k + 1) := by rw [hxd]; exact List.drop_eq_getElem_cons hlt
      have hfo2 : folN base 0 l = l.take (k + 1) ++ folN (endOf base (l.take (k + 1))) (epOf 0 (l.take (k + 1))) (l.drop (k + 1)) := by
        have h := HFO.out
        rw [hdr] at h
        rw [h, htn, endOf_snoc, epOf_snoc]
        unfold Sg.foll at hf
        rw [end_eq, lastE_eq, Bool.and_eq_true, decide_eq_true_eq, decide_eq_true_eq] at hf
        conv => lhs; unfold folN
        rw [if_pos ⟨hf.1, hf.2⟩]
        simp
      have j1 : (k : Int) < (l.length : Int) := by omega
      have j2 : (0 : Int) ≤ (k : Int) := by omega
      have HBV := Lib.hid hbv
      have HF2 := Lib.hid hf
      have HTN := Lib.hid htn
      have HFO2 := Lib.hid hfo2
      have hgj : k + gj + 1 = l.length := by omega
      have HGJ := Lib.hid hgj
      clear hbv hf htn hfo2 hdr hx hxd hp2 hbc hrc hk hgj
      have h7 : Hp (wr.alloc (.cells #[.int .i64 x.b, .int .i64 x.e, .slice pa x.r.length pc] 38)) P5 (As2 ++ ((wr.heap.size, .cells #[.int .i64 x.b, .int .i64 x.e, .slice pa x.r.length pc] 38 (0, 0)) :: (A ++ F))) :=
        Hp.mid (A := [(wr.heap.size, .cells #[.int .i64 x.b, .int .i64 x.e, .slice pa x.r.length pc] 38 (0, 0))]) (B := As2) (C := A ++ F) (HHr.out.alloc _)
      have H7 := Lib.hid h7
      clear h7
      go_wp2_with fail
      refine (follows_any HG2.out HW2.out x _ HBV.out H7.out).mono ?_
      rintro e w8 ⟨rfl, hH8⟩
      rw [HF2.out]
      have d0 : w8.cell? ⟨wr.heap.size, 0, none⟩ = some (.int .i64 x.b) := (@Hp.cell _ _ _ hH8 wr.heap.size #[.int .i64 x.b, .int .i64 x.e, .slice pa x.r.length pc] 38 (0, 0) (by simp)) rfl
      have d1 : w8.cell? ⟨wr.heap.size, 1, none⟩ = some (.int .i64 x.e) := (@Hp.cell _ _ _ hH8 wr.heap.size #[.int .i64 x.b, .int .i64 x.e, .slice pa x.r.length pc] 38 (0, 0) (by simp)) rfl
      have d2 : w8.cell? ⟨wr.heap.size, 2, none⟩ = some (.slice pa x.r.length pc) := (@Hp.cell _ _ _ hH8 wr.heap.size #[.int .i64 x.b, .int .i64 x.e, .slice pa x.r.length pc] 38 (0, 0) (by simp)) rfl
      have H8 := Lib.hid hH8
      clear hH8 c0 c1 c2
      go_wp2_with fail
      refine (sput_any (C.sub HS5.out) HG2.out HW2.out x hxo hxb _ HBV.out H8.out).mono ?_
      rintro e w9 ⟨rfl, A9, hG9, hH9⟩
      have h10 : Hp w9 P5 (A9 ++ (A ++ F)) := (Hp.mid (A := A9) (B := [(wr.heap.size, .cells #[.int .i64 x.b, .int .i64 x.e, .slice pa x.r.length pc] 38 (0, 0))]) (C := A ++ F) hH9).tail
      have hrel9 : OpRel P5 A F d s base every l gj (.int .i64 ((k + 1 : Nat) : Int)) w9 := by
        refine ⟨k + 1, A9, by have := HGJ.out; omega, rfl, ?_, HFO2.out, h10⟩
        rw [HTN.out, ← HNM.out]; exact hG9
      have HR9 := Lib.hid hrel9
      clear hH9 h10 hG9 hrel9
      go_wp2_with fail
      go_roundg gj
      case measure => omega
      case rel => exact HR9.out
    · have hq : q = l.take k := by
        rw [← HQ.out, HFO.out]
        rcases hexit with h | ⟨h, hf⟩
        · rw [h, List.drop_length]; simp [folN]
        · rw [List.drop_eq_getElem_cons h]
          rw [List.getElem?_eq_getElem h, Option.getD_some] at hf
          unfold Sg.foll at hf
          rw [end_eq, lastE_eq, Bool.and_eq_false_iff, decide_eq_false_iff_not, decide_eq_false_iff_not] at hf
          unfold folN
          rw [if_neg (by rintro ⟨h1, h2⟩; rcases hf with hf | hf; exact hf h1; exact hf h2)]
          simp
      have HQ2 := Lib.hid hq
      clear hq
      rcases hexit with hexit | ⟨hlt, hf⟩
      case' inl =>
        have j1 : ¬ (k : Int) < (l.length : Int) := by omega
        have j2 : ¬ k < l.length := by omega
        have H9 : Hid (Hp wr P5 (As2 ++ (A ++ F))) := HHr.out
        clear hexit
        go_wp2_with fail
      case' inr =>
        have hko : k < out.length := by have := HOL.out; omega
        obtain ⟨g, off, cap, hvv, hcap, hbc⟩ := HBP.out.at_ hko
        simp only [Value.slice.injEq] at hvv
        obtain ⟨rfl, -, rfl⟩ := hvv
        have hx : (out[k]'hko).1 = l[k] := by have := HM.out; subst this; simp
        obtain ⟨x, hxd⟩ : ∃ x, x = l[k] := ⟨_, rfl⟩
        obtain ⟨p2, hp2⟩ : ∃ p2, (out[k]'hko).2 = p2 := ⟨_, rfl⟩
        obtain ⟨-, c0, c1, c2, hrc⟩ := HHr.out.use hbc
        have hbv : Pers P5 (fun w => BtV w (.agg #[.int .i64 x.b, .int .i64 x.e, p2]) x) := hbc.imp (fun w1 h => by
          obtain ⟨-, -, -, -, h5⟩ := h
          rw [hxd, ← hx, ← hp2]
          exact ⟨_, rfl, h5⟩)
        rw [hx, ← hxd] at c0 c1 hrc
        rw [hp2] at c2 hrc
        obtain ⟨pa, pc, rfl⟩ := hrc.shape
        rw [List.getElem?_eq_getElem hlt, Option.getD_some, ← hxd] at hf
        have j1 : (k : Int) < (l.length : Int) := by omega
        have j2 : (0 : Int) ≤ (k : Int) := by omega
        have HBV := Lib.hid hbv
        have HF2 := Lib.hid hf
        have h7 : Hp (wr.alloc (.cells #[.int .i64 x.b, .int .i64 x.e, .slice pa x.r.length pc] 38)) P5 (As2 ++ (A ++ F)) := (HHr.out.alloc _).tail
        have H7 := Lib.hid h7
        clear hbv hf hx hxd hp2 hbc hrc h7
        go_wp2_with fail
        refine (follows_any HG2.out HW2.out x _ HBV.out H7.out).mono ?_
        rintro e w8 ⟨rfl, hH8⟩
        rw [HF2.out]
        have H9 := Lib.hid hH8
        clear hH8 c0 c1 c2
        go_wp2_with fail
      all_goals
        refine (ssize_any HG2.out HW2.out H9.out).mono ?_
        rintro e w10 ⟨rfl, hH10⟩
        obtain ⟨m, hm⟩ : ∃ m, sizes (l.take k) = m := ⟨_, rfl⟩
        rw [show sizes (Sg.l ⟨d, nm, base, every, l.take k, 0⟩) = m from hm]
        have hmn : m ≤ n := by
          have : sizes l = sizes (l.take k) + sizes (l.drop k) := by rw [← sizes_app, List.take_append_drop]
          omega
        obtain ⟨lv3, -, y1, -, -, -, -⟩ := HG2.out.cells hH10
        have HMM := Lib.hid hm
        have H10 := Lib.hid hH10
        clear hm hH10
        have hcut : m < n ∨ m = n := by omega
        rcases hcut with hcut | hcut
        case' inl =>
          have i1 : (0 : Int) < (n : Int) - (m : Int) := by omega
          have i2 : (m : Int) < (n : Int) := by omega
          go_wp2_with fail
          go_region_held3 (fun w' => w'.cell? ⟨s, 1, none⟩ = some (str nm))
            (first
              | go_keep
              | exact y1)
            (first
              | (go_at_call 18
                 with_reducible refine (ssize_any HG2.out HW2.out H10.out.drew).mono ?_
                 rintro e w11 ⟨rfl, hH11⟩
                 rw [show sizes (Sg.l ⟨d, nm, base, every, l.take k, 0⟩) = m from HMM.out]
                 obtain ⟨lv4, -, y1, -, -, -, -⟩ := HG2.out.cells hH11)
              | (go_at_call 61
                 with_reducible refine (dcut_ok (C.sub HS5.out) (hD.sub HS5.out) (Hp.mid hH11) nm hnl f.blk HFD.out f HL2.out m (by rw [HN.out]; exact hmn) (by have := HN.out; omega)).mono ?_
                 rintro e w12 ⟨rfl, P6, A6, hs6, hD6, hH12⟩
                 have hH13 := Hp.mid hH12
                 obtain ⟨lv5, -, y1, -, -, -, -⟩ := HG2.out.cells hH13))
          have hI1 := cut_I HI.out f m
          have hl1 : (D.cut f m).look nm = some { f with b := f.b.take m, s := m } := by rw [cut_look HI.out HL.out, if_pos rfl]
          have HFD1 : Hid ((D.cut f m).find nm = .ok f.blk) := hI1.find_ok (f := { f with b := f.b.take m, s := m }) hl1
          have HL21 : Hid (ffind (D.cut f m).fl f.blk = some { f with b := f.b.take m, s := m }) := (look_some (f := { f with b := f.b.take m, s := m }) hl1).2
          have HOPN : Hid ((D.cut f m).sync { f with b := f.b.take m, s := m } = D.opened f m) := by
            show _ = _
            unfold Dk.opened; rw [HN.out, if_pos hcut]
          have HD1 := Lib.hid hD6
          have H13 := Lib.hid hH13
          have HS6 := Lib.hid (HS5.out.trans hs6)
          clear hH11 hH12 hH13 hs6 hD6 hI1 hl1 i1 i2 hcut
          go_wp2_with fail
        case' inr =>
          have i1 : ¬ (0 : Int) < (n : Int) - (m : Int) := by omega
          have i2 : ¬ (m : Int) < (n : Int) := by omega
          have i3 : ¬ m < n := by omega
          have HFD1 : Hid (D.find nm = .ok f.blk) := HFD.out
          have HL21 : Hid (ffind D.fl f.blk = some f) := HL2.out
          have HOPN : Hid (D.sync f = D.opened f m) := by
            show _ = _
            unfold Dk.opened; rw [HN.out, if_neg (by omega)]
          have HD1 := Lib.hid (hD.sub HS5.out)
          have H13 := H10
          have HS6 := HS5
          clear hcut
          go_wp2_with fail
        all_goals
          refine (dsync_ok (C.sub HS6.out) HD1.out (Hp.mid H13.out) nm hnl f.blk HFD1.out _ HL21.out).mono ?_
          rintro e w14 ⟨rfl, A7, hD7, hH14⟩
          rw [HOPN.out] at hD7
          have H14 := Lib.hid (Hp.mid hH14)
          have HD7 := Lib.hid hD7
          clear hH14 hD7
          go_wp2_with fail
          refine (ssize_any HG2.out HW2.out H14.out).mono ?_
          rintro e w15 ⟨rfl, hH15⟩
          rw [show sizes (Sg.l ⟨d, nm, base, every, l.take k, 0⟩) = m from HMM.out]
          obtain ⟨lvz, Al, hAs, hrow⟩ := HG2.out
          subst hAs
          have fz := Hp.frozen hH15 (b := s) (c := sgCells ⟨d, nm, base, every, l.take k, 0⟩ lvz) (t := 104) (by simp) 5
          have cz := (@Hp.cell _ _ _ hH15 s (sgCells ⟨d, nm, base, every, l.take k, 0⟩ lvz) 104 (0, 0) (by simp)) (i := 5) rfl
          have H15 := Lib.hid hH15
          have HROW := Lib.hid hrow
          clear hH15 hrow
          go_wp2_with fail
          have hset := Hp.set (M := Al ++ (A7 ++ F)) H15.out 5 (.int .i64 m)
          have hGf : SgM s ⟨d, nm, base, every, q, m⟩ ((s, .cells (sgCells ⟨d, nm, base, every, q, m⟩ lvz) 104 (0, 0)) :: Al) := ⟨lvz, Al, rfl, by
            have := HROW.out
            rw [HQ2.out]; exact this⟩
          have e1 : sizes q = m := by rw [HQ2.out]; exact HMM.out
          have e2 : ((n : Int) - (m : Int)) = ((n - m : Nat) : Int) := by omega
          exact bodyPost_ret (v := .tuple #[ptr s, .int .i64 ((n : Int) - (m : Int)), .nilIface]) (by simp [results, Tryz.results16, go_sem]) rfl ⟨s, _, _, A7, by rw [e1, e2], HS6.out, by rw [e1, ← HNM.out]; exact hGf, by rw [e1]; exact HD7.out, hset⟩
end

end Go.Proofs.YtncjffkpkmjgkaaGreatDoor.Sg

/-! Rn -/
namespace Go.Proofs.YtncjffkpkmjgkaaGreatDoor.Sg
open Go.RowKit Er Go.Maps

theorem rnext_any (x : Bt) (hb : -1099511627776 ≤ x.b) (hb2 : x.b ≤ 1099511627776) (hn : x.r.length ≤ 1099511627776) (v : Value) (w : World) (h : BtV w v x) :
    Calls Tryz.prog 14 #[v] w fun e w' => e = .returned (.int .i64 (x.b + x.r.length)) ∧ Below w.heap.size w w' := by
  obtain ⟨rs, rfl, h⟩ := h
  obtain ⟨va, vc, rfl⟩ := h.shape
  clear h
  go_enter Tryz.func14, Tryz.ntmps14
  go_wp2
  go_ret
  exact ⟨rfl, (Below.refl _ _).alloc (Nat.le_refl _) _⟩

end Go.Proofs.YtncjffkpkmjgkaaGreatDoor.Sg

/-! Gp -/
namespace Go.Proofs.YtncjffkpkmjgkaaGreatDoor.Sg
open Go.RowKit Er Go.Maps

theorem rdGo_all (o most : Int) : ∀ (l out : List Bt) (s : Nat) (b e : Int), Chain b e l → o ≤ b → (∀ x, x ∈ l → 1 ≤ x.r.length) → ((s + sizes l : Nat) : Int) ≤ most → rdGo o most l out s = out ++ l
  | [], out, s, b, e, _, _, _, _ => by simp [rdGo]
  | x :: l, out, s, b, e, ⟨hb, he, hc⟩, ho, h1, hm => by
    have hx := h1 x List.mem_cons_self
    have hs : sizes (x :: l) = szB x + sizes l := by simp [sizes]
    have hf : fromL x o = x := by unfold fromL; rw [if_pos (by omega)]
    unfold rdGo
    rw [if_neg (by omega), hf, if_neg (by rintro ⟨_, h⟩; omega), if_neg (by omega), rdGo_all o most l (out ++ [x]) (s + szB x) _ _ hc (by omega) (fun y hy => h1 y (List.mem_cons_of_mem _ hy)) (by omega)]
    simp

theorem SegOn.keep {D D' : Dk} {G : Sg} (h : SegOn D G) (hI : DkI D') (hr : D'.room ≤ 4194304) (hu : D'.used ≤ D'.room) (hl : D'.look G.nm = D.look G.nm) : SegOn D' G :=
  ⟨hI, h.ok, h.by_, h.base, h.nm, by obtain ⟨f, h1, h2, h3⟩ := h.f; exact ⟨f, hl.trans h1, h2, h3⟩, hr, hu⟩

section
variable {S : List Nat} {E : Nat → Addr} {B : Nat} {P : Pm} {s d : Nat} {D : Dk} {A Ad F : Mm} {w : World}

/-- A segment whose file has just its batches is opened as it is. -/
theorem sopen_on (C : Ctx S E B P) (hD : DkM P d D Ad) (base : Nat) (every : Nat) (h1 : 1 ≤ every) (h2 : every ≤ 1048576) (L : List Bt) (kept : Nat) (hO : SegOn D ⟨d, segNm base, base, every, L, kept⟩) (hch : Chain base 0 L) (hH : Hp w P (Ad ++ F)) :
    Calls Tryz.prog 16 #[ptr d, .int .i64 base, .int .i64 every] w fun e w' => ∃ s P' As A' D', e = .returned (.tuple #[ptr s, .int .i64 0, .nilIface]) ∧ Sub P P' ∧
      SgM s ⟨d, segNm base, base, every, L, sizes L⟩ As ∧ DkM P' d D' A' ∧ SegOn D' ⟨d, segNm base, base, every, L, sizes L⟩ ∧ DkSame D D' ∧ D'.used = D.used ∧ (∀ s', s' ≠ segNm base → D'.look s' = D.look s') ∧ Hp w' P' (As ++ (A' ++ F)) := by
  obtain ⟨f, l1, l2, l3⟩ := hO.f
  have l1' : D.look (segNm base) = some f := l1
  have l2' : f.b = flatB L := l2
  have hlen : f.b.length = sizes L := by rw [l2', flatB_len]
  refine (sopen_ok C hD hO.I base hO.base every h1 h2 f l1' hO.room hO.used L [] (by rw [l2', List.append_nil]) (fun x hx => ⟨hO.ok x hx, hO.by_ x hx⟩) (.inl rfl) hH).mono ?_
  rintro e w' ⟨s, P', As, A', rfl, hs, hG, hD', hH'⟩
  rw [folN_chain L base 0 hch] at hG hD'
  obtain ⟨o1, o2, o3, o4⟩ := opened_ok hO.I l1' (sizes L) (by omega)
  refine ⟨s, P', As, A', _, ?_, hs, hG, hD', ⟨o1, hO.ok, hO.by_, hO.base, hO.nm, ⟨{ f with b := f.b.take (sizes L), s := sizes L }, ?_, ?_, rfl⟩, ?_, ?_⟩, o4, by omega, fun s' hs' => ?_, hH'⟩
  · rw [folN_chain L base 0 hch, hlen, Nat.sub_self]; rfl
  · show Dk.look _ (segNm base) = _
    rw [o2, if_pos rfl]
  · show f.b.take (sizes L) = flatB L
    rw [← hlen, List.take_length, l2']
  · rw [o4.room]; exact hO.room
  · rw [o4.room]; have := hO.used; omega
  · rw [o2, if_neg hs']

theorem screate_on (C : Ctx S E B P) (hD : DkM P d D Ad) (hI : DkI D) (base : Nat) (hb : base ≤ 1099511627776) (every : Nat) (h1 : 1 ≤ every) (h2 : every ≤ 1048576)
    (hl : D.look (segNm base) = none) (hn : D.n ≤ 1000000) (hnl : D.nm.length < 1000000) (hc : D.ch.length ≤ 1000000) (hr : D.room ≤ 4194304) (hu : D.used ≤ D.room) (hH : Hp w P (Ad ++ F)) :
    Calls Tryz.prog 90 #[ptr d, .int .i64 base, .int .i64 every] w fun e w' => ∃ s As Ad' D', e = .returned (.tuple #[ptr s, .nilIface]) ∧ SgM s ⟨d, segNm base, base, every, [], 0⟩ As ∧ DkM P d D' Ad' ∧ SegOn D' ⟨d, segNm base, base, every, [], 0⟩ ∧
      D'.room = D.room ∧ D'.used = D.used ∧ D'.nm.length = D.nm.length + 1 ∧ D'.n = D.n + 1 ∧ D'.ch.length = 0 ∧ (∀ s', s' ≠ segNm base → D'.look s' = D.look s') ∧ Hp w' P (As ++ (Ad' ++ F)) := by
  refine (screate_ok C hD hI base hb every h1 h2 hl hn hnl hc hH).mono ?_
  rintro e w2 ⟨s, b, As, Ad2, rfl, hG2, hD2, hnd, hH2⟩
  have hI2 := made_I hI (nm := segNm base) hl hnd
  have hlk := made_look hI (nm := segNm base) hl hnd
  have hus := made_used hI (nm := segNm base) hl hnd
  obtain ⟨r1, r2, r3, r4⟩ := made_room hI (nm := segNm base) hl hnd
  refine ⟨s, As, Ad2, _, rfl, hG2, hD2, ⟨hI2, by simp, by simp, hb, by simp [segNm_len], ⟨⟨b, D.n + 1, [], 0⟩, ?_, rfl, rfl⟩, by rw [r1]; exact hr, by rw [hus, r1]; exact hu⟩, r1, hus, r2, r3, r4, fun s' hs' => by rw [hlk, if_neg hs'], hH2⟩
  show Dk.look _ (segNm base) = _
  rw [hlk, if_pos rfl]

end

end Go.Proofs.YtncjffkpkmjgkaaGreatDoor.Sg
