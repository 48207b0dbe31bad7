/- cordwoodlaw7.SegGrows answers true for every input. The statement SegGrows of chapter 7 holds for every input: the call returns true and leaves its arguments as they were. -/
import Derived.Test.YtlkkagjpapjehaaGreatDoorMg
import Derived.Test.YtlkkagjpapjehaaGreatDoorMf
import Derived.Test.YtlkkagjpapjehaaGreatDoorMe
import Derived.Test.YtlkkagjpapjehaaGreatDoorCards
import Derived.Test.YtlkkagjpapjehaaGreatDoorTie
import Derived.ProofKit
import Derived.OpenShut
import Derived.LaidMore
import Derived.Deep.DeepWitnessRowRef

/-! Lg -/
namespace Go.Proofs.YtlkkagjpapjehaaGreatDoor.Sg
open Go.RowKit Er Go.Maps

def other : Bt := ⟨900, 0, [⟨3, [], []⟩]⟩
theorem other_ok : BtOk other := ⟨by decide, by decide, by decide, by decide, by decide, by decide, by intro y hy; simp [other] at hy; subst hy; decide⟩
theorem other_by : BtBy other := by intro y hy; simp [other] at hy; subst hy; simp
theorem other_read : rdGo 900 0 [other] [] 0 = [other] := by
  have hp := szB_low other
  have hf : fromL other 900 = other := by unfold fromL; rw [if_pos (by decide)]
  unfold rdGo
  rw [if_neg (by decide), hf, if_neg (by simp), if_pos (by omega)]; rfl

section
variable {S : List Nat} {E : Nat → Addr} {B : Nat} {P : Pm} {s d : Nat} {D : Dk} {A Ad F : Mm} {w : World}

theorem lay_other (hH : Hp w P F) : ∃ P2, Sub P P2 ∧ Hp ((w.alloc (.cells #[.int .i64 3, .slice none 0 0, .slice none 0 0] 67)).alloc (.cells #[.int .i64 900, .int .i64 0, .slice (some ⟨w.heap.size, 0, none⟩) 1 1] 40)) P2 F ∧
    Pers P2 (fun w1 => BtV w1 (.agg #[.int .i64 900, .int .i64 0, .slice (some ⟨w.heap.size, 0, none⟩) 1 1]) other) ∧
    Pers P2 (fun w1 => w1.cell? ⟨w.heap.size + 1, 0, none⟩ = some (.int .i64 900) ∧ w1.cell? ⟨w.heap.size + 1, 1, none⟩ = some (.int .i64 0) ∧ w1.cell? ⟨w.heap.size + 1, 2, none⟩ = some (.slice (some ⟨w.heap.size, 0, none⟩) 1 1)) := by
  obtain ⟨P1, h1, h2, h3⟩ := hH.lay (.cells #[.int .i64 3, .slice none 0 0, .slice none 0 0] 67)
  obtain ⟨P2, g1, g2, g3⟩ := h2.lay (.cells #[.int .i64 900, .int .i64 0, .slice (some ⟨w.heap.size, 0, none⟩) 1 1] 40)
  rw [World.alloc_size'] at g3
  refine ⟨P2, h1.trans g1, g2, fun w1 hw => ⟨_, rfl, ?_⟩, fun w1 hw => ?_⟩
  · have hb := hw.m _ _ (g1.m _ _ h3)
    refine .inr ⟨w.heap.size, 0, 1, rfl, by decide, (Array.getElem?_eq_some_iff.1 hb).1, fun k x hx => ?_⟩
    have hk : k = 0 := by have := (List.getElem?_eq_some_iff.1 hx).1; simp [other] at this; exact this
    subst hk
    cases hx
    exact ⟨by simp [World.cell?, hb], _, _, by simp [World.cell?, hb], .inl ⟨rfl, rfl⟩, by simp [World.cell?, hb], .inl ⟨rfl, rfl⟩⟩
  · have hb := hw.m _ _ g3
    simp [World.cell?, hb]

/-- What holds at the head of SegGrows's loop. -/
def GrowRel (P : Pm) (F : Mm) (d every : Nat) (L : List Bt) (m : Nat) (vi : Value) (w : World) : Prop :=
  ∃ (k : Nat) (P' : Pm) (Ad : Mm) (D : Dk) (kept : Nat), k + m = L.length ∧ vi = .int .i64 k ∧ Sub P P' ∧ DkM P' d D Ad ∧ SegOn D ⟨d, segNm 0, 0, every, L.take k, kept⟩ ∧ SegOn D ⟨d, segNm 900, 900, every, [other], 0⟩ ∧
    D.room = 1048576 ∧ D.used = sizes (L.take k) + szB other ∧ Hp w P' (Ad ++ F)

theorem endOf_ge : ∀ (l : List Bt) (b e : Int), Chain b e l → (∀ x, x ∈ l → 1 ≤ x.r.length) → b + (l.length : Int) ≤ endOf b l
  | [], b, e, _, _ => by simp [endOf]
  | x :: l, b, e, ⟨hb, he, hc⟩, h => by
    have := endOf_ge l _ _ hc (fun y hy => h y (List.mem_cons_of_mem _ hy))
    have := h x List.mem_cons_self
    rw [endOf_cons, List.length_cons]
    omega

theorem row12 (every : Nat) (xs : List Int) (hx : xs.length ≤ 12) : Chain 0 0 (rowGo every xs 0 0) ∧ (∀ x, x ∈ rowGo every xs 0 0 → BtOk x ∧ BtBy x) ∧ sizes (rowGo every xs 0 0) ≤ 465792 := by
  have hok := row_ok every xs 0 0 (by omega) (by omega) (by omega)
  refine ⟨row_chain every xs 0 0 0 (by have := (rEp_mono every 0).2; omega), hok, ?_⟩
  have h : ∀ L : List Bt, (∀ x, x ∈ L → BtOk x ∧ BtBy x) → sizes L ≤ L.length * 38816 := by
    intro L
    induction L with
    | nil => intro _; simp [sizes]
    | cons x L ih =>
      intro h
      have h1 := szB_le x (h x List.mem_cons_self).1
      have h2 := ih (fun y hy => h y (List.mem_cons_of_mem _ hy))
      simp only [sizes, List.map_cons, List.sum_cons, List.length_cons] at h2 ⊢
      omega
  have h1 := h _ hok
  rw [row_len] at h1
  omega

set_option maxRecDepth 100000 in
set_option maxHeartbeats 1500000 in
theorem grows_all (a0 : Option Addr) (len0 cap0 : Nat) (z0 : List Int) (o : Int) (W : World) (h : IsRow W a0 len0 cap0 z0) {S : List Nat} (hS : ∀ i, i < 10 ∨ i = 14 → i ∈ S) (hE : Errs S W (errAt W) W.heap.size)
    (hT : Lib.TabIs Tryz.prog W "internal/strconv.uint64pow10" .u64 Lib.pow10Tab) :
    Calls Tryz.prog 6 #[.slice a0 len0 cap0, .int .i64 o] W fun e W' => e = .returned (.bool true) ∧ Below W.heap.size W W' := by
  have C := ctx_start hS hE hT
  obtain ⟨xs, rfl, hC⟩ := isRow_C h
  have hCp := ints_pers hC
  have H0 : Hid (Hp W (Pm.start W) []) := Hp.start W
  clear h hC hE hT
  have HCP := Lib.hid hCp
  clear hCp
  go_enter Tryz.func6, Tryz.ntmps6
  go_wp2_with fail
  refine (first_ok C H0.out).mono ?_
  rintro e w1 ⟨rfl, P1, hs1, hH1⟩
  have H1 := Lib.hid hH1
  have HS1 := Lib.hid hs1
  clear hH1 hs1
  go_wp2_with fail
  refine (number_any o 100 (by omega) (by omega) _).mono ?_
  rintro e w2 ⟨rfl, rfl⟩
  have ha0 := Int.emod_nonneg o (show ((100 : Nat) : Int) ≠ 0 by omega)
  have ha1 := Int.emod_lt_of_pos o (show 0 < ((100 : Nat) : Int) by omega)
  obtain ⟨rm, hrm⟩ : ∃ rm : Nat, o % ((100 : Nat) : Int) = rm := ⟨(o % ((100 : Nat) : Int)).toNat, by omega⟩
  rw [hrm] at ha0 ha1 ⊢
  have H2 := H1
  clear hrm
  by_cases hlen : 12 < xs.length
  · have i1 : (12 : Int) < (xs.length : Int) := by omega
    have HB := Lib.hid (H2.out.to_below HS1.out)
    go_wp2_with fail
    go_ret
    exact ⟨rfl, HB.out⟩
  have i1 : ¬ (12 : Int) < (xs.length : Int) := by omega
  have hl1 : xs.length ≤ 12 := by omega
  have hr1 : (rm : Int) + 1 = ((rm + 1 : Nat) : Int) := by omega
  obtain ⟨ev, hev⟩ : ∃ ev : Nat, rm + 1 = ev := ⟨_, rfl⟩
  have hn1 : 1 ≤ ev := by omega
  have hn2 : ev ≤ 100 := by omega
  obtain ⟨hch, hok, hsz⟩ := row12 2 xs hl1
  obtain ⟨L, hLd⟩ : ∃ L, L = rowGo 2 xs 0 0 := ⟨_, rfl⟩
  rw [← hLd] at hch hok hsz
  have hLn : L.length = xs.length := by rw [hLd, row_len]
  have HLD := Lib.hid hLd
  have HCH := Lib.hid hch
  have HOK := Lib.hid hok
  have HSZ := Lib.hid hsz
  have HLN := Lib.hid hLn
  clear hLd hch hok hsz hLn
  go_wp2_with fail
  clear hr1 hev ha0 ha1
  refine (row_p H2.out a0 xs cap0 (HCP.out.sub HS1.out) 2 (by decide) (by omega) 0 (by decide) (by decide)).mono ?_
  rintro e w3 ⟨v3, P3, out3, rfl, hs3, hm3, hb3, hH3⟩
  have hm3' : out3.map (·.1) = L := hm3.trans HLD.out.symm
  have ho3 : out3.length = xs.length := by rw [← HLN.out, ← hm3', List.length_map]
  obtain ⟨va, vc, rfl, hvc⟩ := hb3.shape
  rw [ho3] at hb3 hvc ⊢
  have H3 := Lib.hid hH3
  have HB3 := Lib.hid hb3
  have HM3 := Lib.hid hm3'
  have HO3 := Lib.hid ho3
  have HS3 := Lib.hid (HS1.out.trans hs3)
  have HC3 := Lib.hid (C.sub (HS1.out.trans hs3))
  clear hH3 hb3 hm3 hm3' hs3 ho3
  go_wp2_with fail
  refine (new_ok H3.out 1048576 (by omega) (by omega)).mono ?_
  rintro e w4 ⟨d, Ad4, rfl, hD4, hH4⟩
  have H4 := Lib.hid hH4
  have HD4 := Lib.hid hD4
  clear hH4 hD4
  go_wp2_with fail
  refine (screate_on HC3.out HD4.out (dk0_I _) 0 (by decide) ev hn1 (by omega) rfl (by decide) (by decide) (by decide) (by decide) (by decide) H4.out).mono ?_
  rintro e w5 ⟨sa, Aa, Ad5, D5, rfl, hG5, hD5, hO5, r5, u5, n5, m5, c5, l5, hH5⟩
  have H5 := Lib.hid (Hp.mid hH5)
  have HD5 := Lib.hid hD5
  have HO5 := Lib.hid hO5
  have hne : segNm 900 ≠ segNm 0 := fun h => absurd (segNm_inj 900 0 (by decide) (by decide) h) (by decide)
  have HNE := Lib.hid hne
  have hlk9 : D5.look (segNm 900) = none := (l5 _ hne).trans rfl
  have HLK9 := Lib.hid hlk9
  have hr5 : D5.room = 1048576 := r5
  have hu5 : D5.used = 0 := u5
  have hn5 : D5.nm.length = 1 := n5
  have hm5 : D5.n = 1 := m5
  have HX5 : Hid (D5.room = 1048576 ∧ D5.used = 0 ∧ D5.nm.length = 1 ∧ D5.n = 1 ∧ D5.ch.length = 0) := ⟨hr5, hu5, hn5, hm5, c5⟩
  clear hH5 hD5 hO5 hG5 l5 hne hlk9 r5 u5 n5 m5 c5 hr5 hu5 hn5 hm5
  go_wp2_with fail
  refine (screate_on HC3.out HD5.out HO5.out.I 900 (by decide) ev hn1 (by omega) HLK9.out (by have := HX5.out; omega) (by have := HX5.out; omega) (by have := HX5.out; omega) (by have := HX5.out; omega) (by have := HX5.out; omega) H5.out).mono ?_
  rintro e w6 ⟨sb, Ab, Ad6, D6, rfl, hG6, hD6, hO6, r6, u6, -, -, -, l6, hH6⟩
  have hO6a := HO5.out.keep hO6.I (by rw [r6, HX5.out.1]; omega) (by rw [u6, r6, HX5.out.1, HX5.out.2.1]; omega) (l6 _ HNE.out.symm)
  have H6 := Lib.hid hH6
  have HD6 := Lib.hid hD6
  have HO6 := Lib.hid hO6
  have HO6A := Lib.hid hO6a
  have HG6 := Lib.hid hG6
  have HX6 : Hid (D6.room = 1048576 ∧ D6.used = 0) := ⟨r6.trans HX5.out.1, u6.trans HX5.out.2.1⟩
  obtain ⟨P7, hs7, hH7, hbv7, hcl7⟩ := lay_other hH6
  have H7 := Lib.hid hH7
  have HS7 := Lib.hid (HS3.out.trans hs7)
  have HD7 := Lib.hid (hD6.sub hs7)
  have HBV7 := Lib.hid hbv7
  have HCL7 := Lib.hid hcl7
  have HSa := Lib.hid hs7
  obtain ⟨y0, y1, y2⟩ := hH7.use hcl7
  clear hH6 hD6 hO6 hG6 l6 r6 u6 hO6a hH7 hbv7 hcl7 hs7
  go_wp2_with fail
  have hol := szB_le other other_ok
  obtain ⟨oz, hoz⟩ : ∃ oz, szB other = oz := ⟨_, rfl⟩
  rw [hoz] at hol
  have HOZ := Lib.hid hoz
  clear hoz
  refine (sappend_on (HC3.out.sub HSa.out) HG6.out HO6.out HD7.out other other_ok other_by _ HBV7.out (by unfold Sg.foll; simp [Sg.end_, Sg.lastE, other]) (by rw [HX6.out.1, HX6.out.2, HOZ.out]; omega) H7.out).mono ?_
  rintro e w8 ⟨rfl, P8, Ab8, Ad8, D8, hs8, hG8, hD8, hO8, hsm8, hu8, hl8, hH8⟩
  have hpush : (Sg.push ⟨d, segNm 900, 900, ev, [], 0⟩ other) = ⟨d, segNm 900, 900, ev, [other], 0⟩ := rfl
  rw [hpush] at hG8 hO8
  have hr8 : D8.room = 1048576 := hsm8.room.trans HX6.out.1
  have hu8' : D8.used = oz := by rw [hu8, HX6.out.2, HOZ.out]; omega
  have hO8a := HO6A.out.keep hO8.I (by rw [hr8]; omega) (by rw [hu8', hr8]; omega) (hl8 _ HNE.out.symm)
  have hstart : GrowRel P8 (Ab8 ++ (Aa ++ [])) d ev L L.length (.int .i64 ((0 : Nat) : Int)) w8 :=
    ⟨0, P8, Ad8, D8, 0, by omega, rfl, Sub.refl P8, hD8, hO8a, hO8, hr8, by rw [hu8', HOZ.out]; simp [sizes], Hp.mid hH8⟩
  have HST := Lib.hid hstart
  have HG8 := Lib.hid hG8
  have HS8 := Lib.hid (HS7.out.trans hs8)
  have HSB := Lib.hid (HSa.out.trans hs8)
  have HC8 := Lib.hid (C.sub (HS7.out.trans hs8))
  have HBV8 := Lib.hid (HBV7.out.sub hs8)
  have HCL8 := Lib.hid (HCL7.out.sub hs8)
  clear hG8 hD8 hO8 hsm8 hu8 hl8 hH8 hs8 hr8 hu8' hO8a hstart hpush y0 y1 y2
  go_wp2_with fail
  go_loopg [14, 15, 16, 17] L.length (fun m vi _ _ _ wr => GrowRel P8 (Ab8 ++ (Aa ++ [])) d ev L m vi wr)
  case atStart => exact HST.out
  case round =>
    obtain ⟨k, P9, Ad9, D9, kept, hk, rfl, hs9, hD9, hO9, hOb9, hr9, hu9, hH9⟩ := hrel
    have hll : L.length = xs.length := HLN.out
    by_cases hlt : k < L.length
    · obtain ⟨gj, rfl⟩ : ∃ x, gk = x + 1 := ⟨gk - 1, by omega⟩
      have hko : k < out3.length := by have := HO3.out; omega
      obtain ⟨g, off, cap, hvv, hcap, hbc⟩ := HB3.out.at_ hko
      simp only [Value.slice.injEq] at hvv
      obtain ⟨rfl, -, rfl⟩ := hvv
      have hx : (out3[k]'hko).1 = L[k] := by have := HM3.out; subst this; simp
      obtain ⟨x, hxd⟩ : ∃ x, x = L[k] := ⟨_, rfl⟩
      obtain ⟨p2, hp2⟩ : ∃ p2, (out3[k]'hko).2 = p2 := ⟨_, rfl⟩
      have hbc8 := hbc.sub (HSB.out.trans hs9)
      rw [show out3[k]'hko = (x, p2) from Prod.ext (hx.trans hxd.symm) hp2] at hbc8
      have hbv : Pers P9 (fun w => BtV w (.agg #[.int .i64 x.b, .int .i64 x.e, p2]) x) := hbc8.imp (fun w1 h => ⟨_, rfl, h.2.2.2.2⟩)
      obtain ⟨pa, pc, hpp⟩ : ∃ a c, p2 = .slice a x.r.length c := (hH9.use hbc8).2.2.2.2.shape
      subst hpp
      have hfoll : (⟨d, segNm 0, 0, ev, L.take k, sizes (L.take k)⟩ : Sg).foll x = true := foll_chain rfl rfl rfl (m := L.drop (k + 1)) (by rw [hxd, take_split L k hlt]; exact HCH.out)
      have hchk := (chain_app (L.take k) (L[k] :: L.drop (k + 1)) 0 0).1 (by rw [take_split L k hlt]; exact HCH.out)
      have hxb : endOf 0 (L.take k) = x.b := by rw [hxd]; exact hchk.2.1.symm
      obtain ⟨hxo, hxby⟩ := HOK.out x (by rw [hxd]; exact List.getElem_mem hlt)
      have hsk := sizes_take L k hlt
      rw [← hxd] at hsk
      have htn := take_next L k hlt
      rw [← hxd] at htn
      have hup : D9.used + szB x ≤ 1048576 := by rw [hu9, HOZ.out]; have := HSZ.out; omega
      have j1 : (k : Int) < (xs.length : Int) := by omega
      have j2 : (0 : Int) ≤ (k : Int) := by omega
      have HBC := Lib.hid hbc8
      have HBV := Lib.hid hbv
      have HR := Lib.hid hH9
      have HF := Lib.hid hfoll
      have HTN := Lib.hid htn
      have HU := Lib.hid hup
      have HU9 := Lib.hid hu9
      have HR9 := Lib.hid hr9
      have HCK := Lib.hid hchk.1
      have HXB := Lib.hid hxb
      have HD9 := Lib.hid hD9
      have HO9 := Lib.hid hO9
      have HOB9 := Lib.hid hOb9
      have hgj : k + 1 + gj = L.length := by omega
      have HGJ := Lib.hid hgj
      clear hbc8 hbv hH9 hfoll htn hup hu9 hr9 hchk hxb hD9 hO9 hOb9 hgj hx hxd hp2 hbc hsk hll hk
      go_wp2_with fail
      refine (sopen_on (HC8.out.sub hs9) HD9.out 0 ev hn1 (by omega) (L.take k) kept HO9.out HCK.out HR.out).mono ?_
      rintro e w10 ⟨s, P10, As, A10, D10, rfl, hs10, hG10, hD10, hO10, hsm10, hu10, hl10, hH10⟩
      have hOb10 := HOB9.out.keep hO10.I (by rw [hsm10.room, HR9.out]; omega) (by rw [hu10, hsm10.room, HR9.out]; have := HU.out; omega) (hl10 _ HNE.out)
      obtain ⟨-, c0, c1, c2, -⟩ := hH10.use (HBC.out.sub hs10)
      have H10 := Lib.hid hH10
      have HG10 := Lib.hid hG10
      have HD10 := Lib.hid hD10
      have HO10 := Lib.hid hO10
      have HOB10 := Lib.hid hOb10
      have HS10 := Lib.hid hs10
      have HR10 := Lib.hid (hsm10.room.trans HR9.out)
      have HU10 := Lib.hid (hu10.trans HU9.out)
      have hroom : D10.used + szB x ≤ D10.room := by rw [hu10, hsm10.room, HR9.out]; exact HU.out
      have HRM := Lib.hid hroom
      clear hH10 hG10 hD10 hO10 hOb10 hsm10 hu10 hl10 hroom
      go_wp2_with fail
      go_region_held3 (fun w' => w'.cell? ⟨g, off + k * 3, none⟩ = some (.int .i64 x.b) ∧ w'.cell? ⟨g, off + k * 3 + 1, none⟩ = some (.int .i64 x.e) ∧ w'.cell? ⟨g, off + k * 3 + 2, none⟩ = some (.slice pa x.r.length pc))
        (first
          | go_keep
          | exact ⟨c0, c1, c2⟩)
        (first
          | (go_at_call 15
             with_reducible refine (end_any HG10.out HO10.out.W H10.out.drew).mono ?_
             rintro e w11 ⟨rfl, hHa⟩
             rw [show Sg.end_ ⟨d, segNm 0, 0, ev, L.take k, sizes (L.take k)⟩ = x.b from HXB.out]
             obtain ⟨-, c0, c1, c2, -⟩ := hHa.use (HBC.out.sub HS10.out))
          | (go_at_call 23
             with_reducible refine (sappend_on ((HC8.out.sub hs9).sub HS10.out) HG10.out HO10.out HD10.out x hxo hxby _ (HBV.out.sub HS10.out) HF.out HRM.out hHa).mono ?_
             rintro e w12 ⟨rfl, P12, A12, Ad12, D12, hs12, hG12, hD12, hO12, hsm12, hu12, hl12, hHb⟩
             obtain ⟨-, c0, c1, c2, -⟩ := hHb.use ((HBC.out.sub HS10.out).sub hs12)))
      have hpush : (Sg.push ⟨d, segNm 0, 0, ev, L.take k, sizes (L.take k)⟩ x) = ⟨d, segNm 0, 0, ev, L.take (k + 1), sizes (L.take k)⟩ := by rw [HTN.out]; rfl
      rw [hpush] at hO12
      have hr12 : D12.room = 1048576 := hsm12.room.trans HR10.out
      have hOb12 := HOB10.out.keep hO12.I (by rw [hr12]; omega) (by rw [hr12]; have := hO12.used; rw [hr12] at this; exact this) (hl12 _ HNE.out)
      have hrel : GrowRel P8 (Ab8 ++ (Aa ++ [])) d ev L gj (.int .i64 ((k + 1 : Nat) : Int)) w12 :=
        ⟨k + 1, P12, Ad12, D12, sizes (L.take k), by have := HGJ.out; omega, rfl, hs9.trans (HS10.out.trans hs12), hD12, hO12, hOb12, hr12, by rw [hu12, HU10.out, HTN.out, sizes_app]; simp [sizes]; omega, Hp.drop hHb⟩
      have HREL := Lib.hid hrel
      clear hHa hHb hG12 hD12 hO12 hsm12 hu12 hl12 hpush hr12 hOb12 hrel
      go_wp2_with fail
      go_roundg gj
      case measure => omega
      case rel => exact HREL.out
    · obtain rfl : k = L.length := by omega
      have htl : L.take L.length = L := List.take_length
      rw [htl] at hO9 hu9
      have j1 : ¬ (L.length : Int) < (xs.length : Int) := by omega
      have j2 : ¬ (xs.length : Int) < (xs.length : Int) := by omega
      have HR := Lib.hid hH9
      have HD9 := Lib.hid hD9
      have HO9 := Lib.hid hO9
      have HOB9 := Lib.hid hOb9
      have HS9 := Lib.hid hs9
      have HR9 := Lib.hid hr9
      clear hH9 hD9 hO9 hOb9 htl hu9 hs9 hr9
      go_wp2_with fail
      refine (sopen_on (HC8.out.sub HS9.out) HD9.out 0 ev hn1 (by omega) L kept HO9.out HCH.out HR.out).mono ?_
      rintro e w10 ⟨s, P10, As, A10, D10, rfl, hs10, hG10, hD10, hO10, hsm10, hu10, hl10, hH10⟩
      have hOb10 := HOB9.out.keep hO10.I (by rw [hsm10.room, HR9.out]; omega) (by rw [hu10, hsm10.room]; exact HO9.out.used) (hl10 _ HNE.out)
      have H10 := Lib.hid hH10
      have HG10 := Lib.hid hG10
      have HD10 := Lib.hid hD10
      have HO10 := Lib.hid hO10
      have HOB10 := Lib.hid hOb10
      have HS10 := Lib.hid hs10
      have hrd := HB3.out.read
      rw [HM3.out] at hrd
      have HRD := Lib.hid (hrd.sub ((HSB.out.trans HS9.out).trans hs10))
      clear hH10 hG10 hD10 hO10 hOb10 hsm10 hu10 hl10 hs10 hrd
      obtain ⟨n, hn⟩ : ∃ n, xs.length = n := ⟨_, rfl⟩
      have h0 : n = 0 ∨ 0 < n := by omega
      rw [hn] at HRD ⊢
      have HLn : Hid (L.length = n) := HLN.out.trans hn
      have hn12 : n ≤ 12 := by omega
      clear hn
      rcases h0 with h0 | h0
      case' inl =>
        have hL0 : L = [] := List.eq_nil_of_length_eq_zero (by have := HLn.out; omega)
        subst h0
        have HA : Hid (Pers P10 (fun w => BtsR w (.slice none 0 0) L)) := fun w1 _ => .inl ⟨rfl, hL0⟩
        have H11 := Lib.hid (Hp.drop H10.out)
        have HS11 : Hid (Sub P10 P10) := Sub.refl P10
        clear hL0
        go_wp2_with fail
      case' inr =>
        have hend : (0 : Int) < endOf 0 L := by
          have := endOf_ge L 0 0 HCH.out (fun x hx => (HOK.out x hx).1.n1)
          have := HLn.out
          omega
        have HEND := Lib.hid hend
        have i2 : (0 : Int) < (n : Int) := by omega
        clear hend
        go_wp2_with fail
        refine (sread_on ((HC8.out.sub HS9.out).sub HS10.out) HG10.out HO10.out HD10.out 0 1048576 (by show (0 : Int) ≤ 0; omega) HEND.out (by omega) (by omega) H10.out).mono ?_
        rintro e w11 ⟨v11, out11, P11, rfl, hs11, hm11, hb11, hH11⟩
        have hall : rdGo 0 1048576 L [] 0 = L := rdGo_all 0 1048576 L [] 0 0 0 HCH.out (by omega) (fun x hx => (HOK.out x hx).1.n1) (by have := HSZ.out; omega)
        have hm11' : out11.map (·.1) = L := hm11.trans hall
        have hrd11 := hb11.read
        rw [hm11'] at hrd11
        have HA := Lib.hid hrd11
        have H11 := Lib.hid (Hp.drop hH11)
        have HS11 := Lib.hid hs11
        clear hs11 hm11 hb11 hH11 hall hm11' hrd11
        go_wp2_with fail
      all_goals
        refine (sread_on (((HC8.out.sub HS9.out).sub HS10.out).sub HS11.out) HG8.out HOB10.out (HD10.out.sub HS11.out) 900 0 (by show ((900 : Nat) : Int) ≤ 900; omega) (by simp [Sg.end_, other]) (by omega) (by omega) (Hp.mid H11.out)).mono ?_
        rintro e w12 ⟨v12, out12, P12, rfl, hs12, hm12, hb12, hH12⟩
        have hm12' : out12.map (·.1) = [other] := hm12.trans other_read
        obtain ⟨p, rfl⟩ : ∃ p, out12 = [p] := by
          have hl : out12.length = 1 := by have := congrArg List.length hm12'; simpa using this
          exact List.length_eq_one_iff.1 hl
        obtain ⟨g12, off12, cap12, rfl, hcap12, hbc12⟩ := hb12.at_ (k := 0) (by simp)
        obtain ⟨pb, p2⟩ := p
        obtain rfl : pb = other := by simpa using hm12'
        simp only [List.getElem_cons_zero, Nat.zero_mul, Nat.add_zero] at hbc12
        obtain ⟨ra, rc, hra⟩ := (hH12.use hbc12).2.2.2.2.shape
        obtain rfl : p2 = .slice ra 1 rc := hra
        have hbv12 : Pers P12 (fun w => BtV w (.agg #[.int .i64 900, .int .i64 0, .slice ra 1 rc]) other) := hbc12.imp (fun w1 h => ⟨_, rfl, h.2.2.2.2⟩)
        have hcc12 : Pers P12 (fun w => w.cell? ⟨g12, off12, none⟩ = some (.int .i64 900) ∧ w.cell? ⟨g12, off12 + 1, none⟩ = some (.int .i64 0) ∧ w.cell? ⟨g12, off12 + 2, none⟩ = some (.slice ra 1 rc)) := hbc12.imp (fun w1 h => ⟨h.2.1, h.2.2.1, h.2.2.2.1⟩)
        obtain ⟨c0, c1, c2⟩ := hH12.use hcc12
        have hs8 : Sub P8 P12 := ((HS9.out.trans HS10.out).trans HS11.out).trans hs12
        obtain ⟨y0, y1, y2⟩ := hH12.use (HCL8.out.sub hs8)
        simp only [List.length_cons, List.length_nil, Nat.zero_add] at hcap12 ⊢
        have H12 := Lib.hid hH12
        have HBV12 := Lib.hid hbv12
        have HCC12 := Lib.hid hcc12
        have HRD12 := Lib.hid (HRD.out.sub (HS11.out.trans hs12))
        have HA12 := Lib.hid (HA.out.sub hs12)
        have HS12 := Lib.hid (HS8.out.trans hs8)
        have HY := Lib.hid (HCL8.out.sub hs8)
        have HO12 := Lib.hid (HBV8.out.sub hs8)
        have SA : Hid (BtsR w12.drew _ L) := H12.out.drew.use HA12.out
        have SR : Hid (BtsR w12.drew _ L) := H12.out.drew.use HRD12.out
        have hLl : L.length ≤ 1000000000 := by have := HLn.out; omega
        have hsm : ∀ x, x ∈ L → BtSm x := fun x hx => (HOK.out x hx).1.sm
        clear hH12 hbv12 hcc12 hs12 hs8 hm12 hm12' hb12 hbc12
        go_wp2_with fail
        go_region_held3 (fun w' => (w'.cell? ⟨g12, off12, none⟩ = some (.int .i64 900) ∧ w'.cell? ⟨g12, off12 + 1, none⟩ = some (.int .i64 0) ∧ w'.cell? ⟨g12, off12 + 2, none⟩ = some (.slice ra 1 rc)) ∧
            (w'.cell? ⟨w6.heap.size + 1, 0, none⟩ = some (.int .i64 900) ∧ w'.cell? ⟨w6.heap.size + 1, 1, none⟩ = some (.int .i64 0) ∧ w'.cell? ⟨w6.heap.size + 1, 2, none⟩ = some (.slice (some ⟨w6.heap.size, 0, none⟩) 1 1)))
          (first
            | go_keep
            | exact ⟨⟨c0, c1, c2⟩, y0, y1, y2⟩)
          (first
            | (go_at_call 18
               with_reducible refine (samebatches_ok SA.out SR.out hLl hsm).mono ?_
               rintro e w13 ⟨rfl, hb13⟩
               have hH13 := H12.out.drew.below hb13 (Nat.le_refl _)
               have SB : BtV w13 _ other := hH13.use HBV12.out
               have SO : BtV w13 _ other := hH13.use HO12.out
               obtain ⟨c0, c1, c2⟩ := hH13.use HCC12.out
               obtain ⟨y0, y1, y2⟩ := hH13.use HY.out)
            | (go_at_call 41
               with_reducible refine (samebatch_ok other _ _ _ SB SO other_ok.sm).mono ?_
               rintro e w14 ⟨rfl, hb14⟩
               have hH14 := hH13.below hb14 (Nat.le_refl _)
               obtain ⟨c0, c1, c2⟩ := hH14.use HCC12.out
               obtain ⟨y0, y1, y2⟩ := hH14.use HY.out))
        have HB := Lib.hid (hH14.to_below HS12.out)
        clear hH13 hH14 hb13 hb14
        go_wp2_with fail
        go_ret
        exact ⟨rfl, HB.out⟩
end
end Go.Proofs.YtlkkagjpapjehaaGreatDoor.Sg

/-! SegGrowsRow -/
namespace Go.Proofs.YtlkkagjpapjehaaGreatDoor.segGrows
open Go.ChangeShapes Go.WideShapes Go.ChangeAt Go.RowKit
open Go.Proofs.YtlkkagjpapjehaaGreatDoor.Sg
set_option linter.unusedVariables false

theorem own : ownKnob Tryz.prog.godebug = none := by kernel_rfl
theorem laidOut : laidOutB Tryz.prog = true := by kernel_rfl

theorem door_met (os : Os) (args : Array Value) : laidMetH Tryz.prog Rows.segGrowsRow.laid ((World.doorLaid Tryz.prog 400 os).forCall (fun _ _ => 0) ⟨#[], args, []⟩).memory :=
  laidMetH_of_parts3 (fuel := 8) (laidMet_of_run' 8 (by kernel_rfl) (by kernel_rfl)) (by kernel_rfl) (by kernel_rfl)

theorem reads (os : Os) {H : Type} (enc : TypeId × Value → H) : ∃ places, DataW.whole enc Tryz.prog ((World.doorLaid Tryz.prog 400 os).forCall (fun _ _ => 0) ⟨#[], #[.slice none 0 0, .int .i64 0], []⟩).memory Tryz.f6.params.toList Rows.segGrowsSpec.vars false (#[.slice none 0 0, .int .i64 0] : Array Value).toList 8 = some ([.nil, .lit (.int .i64 0)], [], places) :=
  ⟨[], by kernel_rfl⟩

set_option maxRecDepth 100000 in
theorem contract (H : Type) (enc : TypeId × Value → H) (W : World) (base : Nat) (args : Array Value) (ds gs : List (DataW H)) (before : List MemPlace)
    (hval0 : ∀ (j : Nat) t v, Tryz.f6.params[j]? = some t → args[j]? = some v → Value.okWide Tryz.prog W .any base t v)
    (hW : DataW.Whole enc Tryz.prog Tryz.f6.params.toList Rows.segGrowsSpec.vars false W args.toList ds gs before) (hL : laidMetH Tryz.prog Rows.segGrowsRow.laid W) (hsh : W.ShapedOpen Tryz.prog) :
    Calls Tryz.prog 6 args W fun e W' => ∃ v, e = .returned v ∧ Rows.segGrowsSpec.post enc Tryz.prog Tryz.f6 false true false false W args v W' := by
  have hval : ∀ (j : Nat) t v, Tryz.f6.params[j]? = some t → args[j]? = some v → Value.okWide Tryz.prog W .any base t v := hval0
  have hW' := hW
  obtain ⟨p, q, hA0, hV, rfl, hfz, hnd⟩ := hW
  have hA : DataW.TrodAll enc Tryz.prog W 0 (fun _ => true) true Tryz.f6.params.toList args.toList ds p := hA0
  rw [Tryz.params6] at hA hval
  obtain ⟨v0, vs0, d0, ds0, p0, q0, hargs, rfl, rfl, h0, r0⟩ := trodAll_cons hA
  obtain ⟨v1, vs1, d1, ds1, p1, q1, rfl, rfl, rfl, h1, r1⟩ := trodAll_cons r0
  obtain ⟨rfl, rfl, rfl⟩ := trodAll_nil r1
  obtain rfl : args = #[v0, v1] := by cases args; simp_all
  obtain ⟨rfl, rfl⟩ := trodVars_none hV
  obtain ⟨a0, len0, cap0, rfl⟩ := okWide_slice Tryz.underlying22 (hval 0 22 v0 rfl rfl)
  have k0 := h0
  have lt0 : ∀ x ∈ p0, x.block < W.heap.size := by obtain ⟨m, hm⟩ := k0; exact DataW.trod_lt m _ _ _ hm
  obtain ⟨z0, w0⟩ : ∃ zs, IsRow W a0 len0 cap0 zs := by
    obtain ⟨fuel, hf⟩ := h0
    rcases open_ints Tryz.underlying22 Tryz.underlying3 (by kernel_rfl) hf with ⟨hcs, _⟩ | ⟨x, l, c, zs, hcs, _, hl, hm, hz, _, hcell, hwz⟩
    · simp [Value.cells] at hcs
      obtain ⟨rfl, rfl, rfl⟩ := hcs
      exact ⟨[], .inl ⟨rfl, rfl, rfl, rfl⟩⟩
    · simp [Value.cells] at hcs
      obtain ⟨rfl, rfl, rfl⟩ := hcs
      exact ⟨zs, .inr ⟨_, rfl, hl, hm, by simpa using hz, hcell, hwz⟩⟩
  obtain ⟨a1, rfl, rfl, rfl, w1⟩ := open_int Tryz.underlying3 (hval 1 3 v1 rfl rfl) h1
  have hL0 := hL
  rw [MakeChecks.laidMetH_plain _ _ _ (by kernel_rfl)] at hL0
  obtain ⟨hT, hE⟩ := laid11 (W := W) hL0 (Er.gmax_le hsh)
  clear hA0 hval0
  refine (grows_all a0 len0 cap0 z0 a1 W w0 l11_all hE hT).mono fun e W' ⟨he, bel⟩ => ?_
  subst he
  exact ⟨_, rfl, _, _, _, [], _, [], hW', trodAll_mk1 (shut_bool Tryz.underlying4 _), (trodAll_cons_mk (Below.trod laidOut (by kernel_rfl) (of_decide_eq_true (by kernel_rfl)) k0 bel lt0) (trodAll_cons_mk (shut_int Tryz.underlying3 w1) trodAll_mk0)), rfl, bel.frame _, fun h => by cases h⟩

set_option maxRecDepth 100000 in
theorem lifted (os : Os) (started : os.Started) (H : Type) (enc : TypeId × Value → H) (F : Stop.Interp) :
    ReturnsInHanded {} Tryz.checked os 6 .any ((OpenSpec.ofChange Rows.segGrowsSpec).preRow enc Tryz.prog Tryz.f6 Rows.segGrowsRow.domain false Rows.segGrowsRow.laid) (((OpenSpec.ofChange Rows.segGrowsSpec).at F).post enc Tryz.prog Tryz.f6 false true false false) := by
  obtain ⟨places, hx⟩ := reads os enc
  refine returnsInHanded_of_row (C := Tryz.checked) (s := OpenSpec.ofChange Rows.segGrowsSpec) own started (by kernel_rfl) Tryz.func6
    (witness_row_atRef (enc := enc) (C := Tryz.checked) false (World.doorLaid Tryz.prog 400 os) #[.slice none 0 0, .int .i64 0] rfl (by kernel_rfl) (by kernel_rfl) (by kernel_rfl)
      (OpenSpec.preRow_of_cond 8 hx (by kernel_rfl) (fun k hk => by cases hk) (by kernel_rfl) (door_met os _))) ?_
  intro W base args ds gs before hval hW _ _ _ hL hsh _
  exact contract H enc W base args ds gs before hval hW hL hsh

theorem said : Rows.SegGrowsSaid :=
  OpenClaim.holds_of_cond 6 Tryz.f6 rfl rfl rfl rfl rfl rfl rfl ⟨rfl, rfl, rfl, rfl, rfl⟩ rfl rfl rfl rfl rfl (by kernel_rfl) Tryz.func6 (by kernel_rfl)
    (of_decide_eq_true (by kernel_rfl)) (by unfold Func.isWrapper; rw [if_neg (of_decide_eq_false (by kernel_rfl))]; exact ⟨rfl, rfl⟩)
    (fun os started H enc _ F => by rw [OpenClaim.pre_eq_preRow]; exact lifted os started H enc F)

theorem plain (f : FuncId) (fn : Func) (hf : Tryz.pinned.checked.prog.funcNamed "cordwood/cordwoodlaw7.SegGrows" = some f) (hfn : Tryz.pinned.checked.prog.funcs[f]? = some fn) :
    true = Tryz.pinned.checked.prog.looks [] ∧ ∀ (j : Nat) t, fn.params[j]? = some t → Tryz.pinned.checked.prog.wantsStandIn t = false := by
  obtain rfl : f = 6 := Option.some.inj ((show Tryz.prog.funcNamed "cordwood/cordwoodlaw7.SegGrows" = some 6 by kernel_rfl).symm.trans hf) |>.symm
  obtain rfl : fn = Tryz.f6 := (Option.some.inj (Tryz.func6.symm.trans hfn)).symm
  refine ⟨by kernel_rfl, fun j t ht => ?_⟩
  rw [Tryz.params6] at ht
  have hm := Array.mem_of_getElem? ht
  have ht2 : t = 22 ∨ t = 3 := by simpa using hm
  rcases ht2 with rfl | rfl
  · exact (show Tryz.prog.wantsStandIn 22 = false by kernel_rfl)
  · exact (show Tryz.prog.wantsStandIn 3 = false by kernel_rfl)

/-- THE CARD -/
theorem card : Rows.SegGrowsCardSaid :=
  Claim7.holds_tied_plain_at .later [] _ _ _ _ said (fun _ h => by cases h) (by kernel_rfl) (fun _ h => by cases h) segGrows_row_tie rfl ⟨rfl, rfl⟩ (by kernel_rfl) rfl plain (by kernel_rfl)
#print axioms card
end Go.Proofs.YtlkkagjpapjehaaGreatDoor.segGrows
