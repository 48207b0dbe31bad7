/- cordwoodlaw10.HotCuts answers true for every input. The table of powers and the errors out of the lists of chapter 10's rows. The statement HotCuts of chapter 10 holds for every input: the call returns true and leaves its arguments as they were. -/
import Derived.Test.YthocnhdefnbchaaGreatDoorMHotCutsA
import Derived.Test.YthocnhdefnbchaaGreatDoorMl
import Derived.Test.YthocnhdefnbchaaGreatDoorMi
import Derived.Test.YthocnhdefnbchaaGreatDoorMf
import Derived.Test.YthocnhdefnbchaaGreatDoorRows
import Derived.Test.YthocnhdefnbchaaGreatDoorMHotCutsB
import Derived.Test.YthocnhdefnbchaaGreatDoorCards
import Derived.Test.YthocnhdefnbchaaGreatDoorTie
import Derived.Stop.LaidErr
import Derived.ProofKit
import Derived.OpenShut
import Derived.LaidMore
import Derived.Deep.DeepWitnessRowRef

/-! Ji -/
namespace Go.Proofs.YthocnhdefnbchaaGreatDoor.Sg
open Go.RowKit Er Go.Maps

theorem arm_un {D : Dk} (h1 : D.arm = 0) (h2 : D.down = false) (n : Nat) : ({ D with arm := n } : Dk).un = D := by
  cases D
  dsimp only at h1 h2
  subst h1 h2
  rfl

set_option maxRecDepth 100000 in
set_option maxHeartbeats 16000000 in
theorem hotcuts_all (a0 : Option Addr) (len0 cap0 : Nat) (z0 : List Int) (a b c : Int) (a4 : Option Addr) (len4 cap4 : Nat) (z4 : List Int) (W : World) (h : IsRow W a0 len0 cap0 z0) (hp : IsRow W a4 len4 cap4 z4) {S : List Nat} (hS : ∀ i, i < 10 ∨ i = 14 → i ∈ S) (hE : Errs S W (errAt W) W.heap.size)
    (hT : Lib.TabIs Tryz.prog W "internal/strconv.uint64pow10" .u64 Lib.pow10Tab) :
    Calls Tryz.prog 8 #[.slice a0 len0 cap0, .int .i64 a, .int .i64 b, .int .i64 c, .slice a4 len4 cap4] W fun e W' => e = .returned (.bool true) ∧ Below W.heap.size W W' := by
  have C := ctx_start hS hE hT
  obtain ⟨xs, rfl, hC⟩ := isRow_C h
  obtain ⟨ps, rfl, hQ⟩ := isRow_C hp
  have hCp := ints_pers hC
  have hQp := ints_pers hQ
  have H0 : Hid (Hp W (Pm.start W) []) := Hp.start W
  have HCP := Lib.hid hCp
  have HCQ := Lib.hid hQp
  clear h hC hp hQ hE hT hCp hQp
  obtain ⟨n, hn⟩ : ∃ n, xs.length = n := ⟨_, rfl⟩
  obtain ⟨np, hnp⟩ : ∃ n, ps.length = n := ⟨_, rfl⟩
  have HNX := Lib.hid hn
  have HNP := Lib.hid hnp
  rw [hn, hnp]
  have hcase : (20 < n) ∨ (¬ 20 < n ∧ n = 0) ∨ (¬ 20 < n ∧ ¬ n = 0 ∧ 10 < np) ∨ (¬ 20 < n ∧ ¬ n = 0 ∧ ¬ 10 < np) := by omega
  rcases hcase with h1 | ⟨h1, h2⟩ | ⟨h1, h2, h3⟩ | ⟨h1, h2, h3⟩
  · clear hn hnp
    go_enter Tryz.func8, Tryz.ntmps8
    go_wp2_with fail
    refine (first10_ok C H0.out).mono ?_
    rintro e w1 ⟨rfl, P1, hs1, hH1⟩
    have HB := Lib.hid (hH1.to_below hs1)
    clear hH1 hs1
    go_wp2_with fail
    go_ret
    exact ⟨rfl, HB.out⟩
  · clear hn hnp HNX
    subst h2
    go_enter Tryz.func8, Tryz.ntmps8
    go_wp2_with fail
    refine (first10_ok C H0.out).mono ?_
    rintro e w1 ⟨rfl, P1, hs1, hH1⟩
    have HB := Lib.hid (hH1.to_below hs1)
    clear hH1 hs1
    go_wp2_with fail
    go_ret
    exact ⟨rfl, HB.out⟩
  · have d1 : decide ((20 : Int) < (n : Int)) = false := decide_eq_false (by omega)
    have d2 : ((n : Int) == 0) = false := beq_eq_false_iff_ne.2 (by omega)
    have d3 : decide ((10 : Int) < (np : Int)) = true := decide_eq_true (by omega)
    have d4 : (decide ((20 : Int) < (n : Int)) || (n : Int) == 0) = false := by rw [d1, d2]; rfl
    clear hn hnp
    go_enter Tryz.func8, Tryz.ntmps8
    go_wp2_with fail
    refine (first10_ok C H0.out).mono ?_
    rintro e w1 ⟨rfl, P1, hs1, hH1⟩
    have HB := Lib.hid (hH1.to_below hs1)
    clear hH1 hs1
    go_wp2_with fail
    go_ret
    exact ⟨rfl, HB.out⟩
  · obtain ⟨hch, hok, hsz, hen1, hen2⟩ := row20b 3 xs 0 (by omega) (by omega)
    obtain ⟨L, hLd⟩ : ∃ L, L = rowGo 3 xs 0 ((0 : Nat) : Int) := ⟨_, rfl⟩
    have hll : L.length = n := by rw [hLd]; exact (row_len 3 xs 0 _).trans hn
    rw [← hLd] at hch hok hsz hen1 hen2
    have hr : ∀ x, x ∈ L → 1 ≤ x.r.length := fun x hx => (hok x hx).1.n1
    obtain ⟨qa, hqa⟩ : ∃ q : Nat, a % ((300 : Nat) : Int) = (q : Int) := ⟨(a % 300).toNat, by omega⟩
    have hqa5 : qa < 300 := by omega
    obtain ⟨kk, hkk⟩ : ∃ q : Nat, b % ((n + 1 : Nat) : Int) = (q : Int) := ⟨(b % ((n + 1 : Nat) : Int)).toNat, by have := Int.emod_nonneg b (show ((n + 1 : Nat) : Int) ≠ 0 by omega); omega⟩
    have hkkn : kk ≤ n := by have := Int.emod_lt_of_pos b (show (0 : Int) < ((n + 1 : Nat) : Int) by omega); omega
    obtain ⟨qc, hqc⟩ : ∃ q : Nat, c % ((12 : Nat) : Int) = (q : Int) := ⟨(c % 12).toNat, by omega⟩
    have hqc5 : qc < 12 := by omega
    obtain ⟨o, ho⟩ : ∃ o, endOf ((0 : Nat) : Int) (L.take kk) = o := ⟨_, rfl⟩
    have hob : ∀ k, k ≤ n → 0 ≤ endOf ((0 : Nat) : Int) (L.take k) ∧ endOf ((0 : Nat) : Int) (L.take k) ≤ 200 := fun k hk => by
      have h1 : 0 ≤ endOf ((0 : Nat) : Int) (L.take k) := by
        rcases Nat.eq_zero_or_pos k with h | h
        · rw [h]; exact Int.le_refl _
        · have := endOf_mono hr hch h (by omega)
          rw [List.take_zero] at this
          have h0 : endOf ((0 : Nat) : Int) [] = 0 := rfl
          omega
      have h2 : endOf ((0 : Nat) : Int) (L.take k) ≤ endOf ((0 : Nat) : Int) L := by
        rcases Nat.lt_or_ge k n with h | h
        · have := endOf_mono hr hch (i := k) (j := n) h (by omega)
          rw [show L.take n = L from List.take_of_length_le (by omega)] at this
          omega
        · rw [List.take_of_length_le (by omega)]; exact Int.le_refl _
      omega
    have HOB := Lib.hid hob
    have HR := Lib.hid hr
    have HO := Lib.hid ho
    have HQA := Lib.hid hqa
    have HKK := Lib.hid hkk
    have HQC := Lib.hid hqc
    have HLD := Lib.hid hLd
    have HCH := Lib.hid hch
    have HOK := Lib.hid hok
    have HSZ := Lib.hid hsz
    have HLL := Lib.hid hll
    have d1 : decide ((20 : Int) < (n : Int)) = false := decide_eq_false (by omega)
    have d2 : ((n : Int) == 0) = false := beq_eq_false_iff_ne.2 (by omega)
    have d3 : decide ((10 : Int) < (np : Int)) = false := decide_eq_false (by omega)
    have d4 : (decide ((20 : Int) < (n : Int)) || (n : Int) == 0) = false := by rw [d1, d2]; rfl
    have d5 : ((decide ((20 : Int) < (n : Int)) || (n : Int) == 0) || decide ((10 : Int) < (np : Int))) = false := by rw [d4, d3]; rfl
    have n8 : n ≤ 20 := by omega
    clear hn hnp hLd hch hok hsz hll hr hqa hkk hqc ho hob hen1 hen2
    go_enter Tryz.func8, Tryz.ntmps8
    go_wp2_with fail
    refine (first10_ok C H0.out).mono ?_
    rintro e w1 ⟨rfl, P1, hs1, hH1⟩
    have H1 := Lib.hid hH1
    have HS1 := Lib.hid hs1
    clear hH1 hs1
    go_wp2_with fail
    refine (number_any a 300 (by omega) (by omega) _).mono ?_
    rintro e w' ⟨rfl, rfl⟩
    rw [HQA.out]
    go_wp2_with fail
    rw [show (qa : Int) + 1 = ((qa + 1 : Nat) : Int) from rfl]
    refine (row_m H1.out a0 xs cap0 n HNX.out (HCP.out.sub HS1.out) 3 (by decide) (by omega) 0 (by decide) (by decide)).mono ?_
    rintro e w2 ⟨v2, P2, out2, rfl, hs2, hm2, hb2, hH2⟩
    have hm2' : out2.map (·.1) = L := hm2.trans HLD.out.symm
    have hol : out2.length = n := by have := congrArg List.length hm2'; rw [List.length_map, HLL.out] at this; exact this
    have H2 := Lib.hid hH2
    have HB2 := Lib.hid hb2
    have HM2 := Lib.hid hm2'
    have HO2 := Lib.hid hol
    have HS2 := Lib.hid (HS1.out.trans hs2)
    have HC2 := Lib.hid (C.sub (HS1.out.trans hs2))
    clear hm2 hs2 hb2 hH2 hm2' hol
    obtain ⟨va, vc, hva, hvc⟩ := HB2.out.shape
    rw [HO2.out] at hva hvc
    subst hva
    go_wp2_with fail
    refine (made10_ok HC2.out (qa + 1) (by omega) (by omega) 0 (by omega) _ out2 HB2.out L HM2.out HCH.out HOK.out HSZ.out H2.out).mono ?_
    rintro e w3 ⟨dx, hx, P3, Ax, Adx, Dx, Hx, rfl, hs3, hMx, hDx, hOx, hd3, hseg3, hev3, -, -, -, -, hnx, hH3⟩
    obtain ⟨L0, s0, G0, hL0⟩ : ∃ L0 s G, Hx.L = L0 ++ [(s, G)] := by
      rcases lastHl Hx.L with h | h
      · exact absurd h hnx
      · exact h
    have hfl := hflush_on (HC2.out.sub hs3) hMx hOx hDx hL0 hH3
    have HFL := Lib.hid hfl
    have HHX := Lib.hid (show Hx.d = dx ∧ Hx.seg = qa + 1 ∧ Hx.every = 60 from ⟨hd3, hseg3, hev3⟩)
    have HS3 := Lib.hid (HS2.out.trans hs3)
    have HC3 := Lib.hid (HC2.out.sub hs3)
    have HB3 := Lib.hid (HB2.out.sub hs3)
    clear hs3 hMx hDx hOx hd3 hseg3 hev3 hnx hH3 hfl hL0
    go_wp2_with fail
    refine HFL.out.mono ?_
    rintro e w4 ⟨rfl, A4, Ad4, D4, hM4, hD4, hO4, hH4⟩
    obtain ⟨H4, hHe⟩ : ∃ H, H = { Hx with L := L0 ++ [(s0, G0.syn)] } := ⟨_, rfl⟩
    rw [← hHe] at hM4 hO4
    have hx4 : H4.d = dx ∧ H4.seg = qa + 1 ∧ H4.every = 60 := by rw [hHe]; exact HHX.out
    have hwh : ∀ p, p ∈ H4.L → p.2.kept = sizes p.2.l := hO4.whole (L0 := L0) (s := s0) (G := G0.syn) (by rw [hHe]) rfl
    have hne4 : H4.L ≠ [] := by rw [hHe]; simp
    have hD4' : DkM P3 dx D4 Ad4 := by rw [← HHX.out.1]; exact hD4
    have HM4 := Lib.hid hM4
    have HD4 := Lib.hid hD4'
    have HO4 := Lib.hid hO4
    have HX4 := Lib.hid hx4
    have HWH := Lib.hid hwh
    have HNE4 := Lib.hid hne4
    have H4' := Lib.hid hH4
    clear hM4 hD4 hD4' hO4 hx4 hwh hne4 hH4 hHe
    go_wp2_with fail
    rw [show (n : Int) + 1 = ((n + 1 : Nat) : Int) from rfl]
    refine (number_any b (n + 1) (by omega) (by omega) _).mono ?_
    rintro e w' ⟨rfl, rfl⟩
    rw [HKK.out]
    go_wp2_with fail
    refine (number_any c 12 (by omega) (by omega) _).mono ?_
    rintro e w' ⟨rfl, rfl⟩
    rw [HQC.out]
    go_wp2_with fail
    refine (darm_ok HD4.out qc (by omega) (Hp.mid H4'.out)).mono ?_
    rintro e w5 ⟨rfl, Ad5, hD5, hH5⟩
    have hun := arm_un HO4.out.I.arm HO4.out.I.down qc
    have hdn5 : ({ D4 with arm := qc } : Dk).down = false := HO4.out.I.down
    obtain ⟨D5, hD5e⟩ : ∃ D, D = ({ D4 with arm := qc } : Dk) := ⟨_, rfl⟩
    rw [← hD5e] at hD5 hun hdn5
    have H5 := Lib.hid (Hp.mid hH5)
    have HD5 := Lib.hid hD5
    have HUN := Lib.hid hun
    have HDN := Lib.hid hdn5
    clear hH5 hD5 hun hdn5 hD5e
    go_wp2_with fail
    refine (at10_ok HB3.out HM2.out HOK.out kk (by rw [HLL.out]; exact hkkn) (by rw [HLL.out]; omega) o HO.out H5.out).mono ?_
    rintro e w6 ⟨rfl, hH6⟩
    have hce := hcutend_any HC3.out HM4.out (by rw [HUN.out]; exact HO4.out) (by rw [HX4.out.1]; exact HD5.out) HDN.out HNE4.out kk (by rw [HLL.out]; exact hkkn) o HO.out hH6
    have HCE := Lib.hid hce
    clear hH6 hce
    go_wp2_with fail
    refine HCE.out.mono ?_
    rintro e w7 (⟨rfl, P6, A6, Ad6, D6, H6, L1, s1, G1, L2, j1, hs6, hM6, hD6, hO6, hL6, hh6, hu6, hr6, hn6, hon6, hH7⟩ | ⟨rfl, P6, A6, Ad6, D6, L1, L2, hs6, hM6, hD6, hoff, hL6, hL1, hb6, he6, hH7⟩)
    case' inl =>
      rw [HX4.out.1] at hD6
      have hnd6 := hD6.blks_nd (Hp.mid hH7)
      have hxx : H6 = ⟨dx, qa + 1, 60, H6.L⟩ := by rw [hh6]; obtain ⟨q1, q2, q3⟩ := HX4.out; rw [← q1, ← q2, ← q3]
      have hne6 : H6.L ≠ [] := by rw [hh6]; simp
      have hst := crst_done (H := H6) (dd := dx) (seg := qa + 1) (every := 60) (l := L) (kk := kk) (D6 := D6) (by rw [← hxx]; exact hO6) (hO6.whole (L0 := L1) (s := s1) (G := G1.cutK j1) (by rw [hh6]) rfl) hne6 (by rw [HLL.out]; exact hkkn) hnd6
      have hend6 : H6.end_ = o := (hO6.hend hne6).trans HO.out
      have HST := Lib.hid hst
      have HEND := Lib.hid hend6
      have HM6 := Lib.hid hM6
      have HW6 := Lib.hid hO6.W
      have HD6 := Lib.hid hD6
      have HS6 := Lib.hid hs6
      have H7 := Lib.hid hH7
      have HDW := Lib.hid hon6.down
      clear hnd6 hxx hne6 hst hend6 hs6 hM6 hD6 hO6 hL6 hh6 hu6 hr6 hn6 hon6 hH7
      go_wp2_with fail
      refine (ddown_ok HD6.out (Hp.mid H7.out)).mono ?_
      rintro e w' ⟨rfl, rfl⟩
      rw [HDW.out]
      go_wp2_with fail
      refine (hend_ok HM6.out HW6.out H7.out).mono ?_
      rintro e w8 ⟨rfl, hH8⟩
      rw [HEND.out]
      go_wp2_with fail
      refine (at10_ok (HB3.out.sub HS6.out) HM2.out HOK.out kk (by rw [HLL.out]; exact hkkn) (by rw [HLL.out]; omega) o HO.out hH8).mono ?_
      rintro e w9 ⟨rfl, hH9⟩
      have H9 := Lib.hid (Hp.mid hH9)
      clear hH8 hH9
      go_wp2_with fail
      obtain ⟨hW6, hn6, hc6, hk6, hq6⟩ := HST.out
      obtain ⟨q, hq⟩ : ∃ q, pickF ps 0 D6.ch.length = q := ⟨_, rfl⟩
      obtain ⟨hi6, hf6, hcr6⟩ := hq6 q
      have hcrash := crash_ok HD6.out hW6 hc6 hk6 q a4 ps cap4 hq hi6 hf6 (by omega) (HCQ.out.sub (HS3.out.trans HS6.out)) H9.out
      rw [HNP.out] at hcrash
      have HCRA := Lib.hid hcrash
      have HCR6 := Lib.hid hcr6
      clear hW6 hn6 hc6 hk6 hq6 hi6 hf6 hcrash hcr6 hq
      go_wp2_with fail
      refine HCRA.out.mono ?_
      rintro e w10 ⟨rfl, p, P10, Ad10, hp10, hs10, hD10, hH10⟩
      obtain ⟨L1, k3, hO10, hL1, hk3a, hk3b, hk3c⟩ := HCR6.out p hp10
      obtain ⟨o3, ho3⟩ : ∃ o, endOf ((0 : Nat) : Int) (L.take k3) = o := ⟨_, rfl⟩
      have ho33 : o ≤ o3 := by
        rw [← HO.out, ← ho3]
        rcases Nat.lt_or_ge kk k3 with h | h
        · exact Int.le_of_lt (endOf_mono HR.out HCH.out h hk3b)
        · rw [show k3 = kk by omega]; exact Int.le_refl _
      have hop := hopen_on ((HC3.out.sub HS6.out).sub hs10) hD10 hO10 (by omega) (by omega) hH10
      have HOP := Lib.hid hop
      have HK3 := Lib.hid (show kk ≤ k3 ∧ k3 ≤ L.length from ⟨hk3a, hk3b⟩)
      have HK3C := Lib.hid hk3c
      have HO3 := Lib.hid ho3
      have HS10 := Lib.hid (HS6.out.trans hs10)
      have HL1 := Lib.hid hL1
      clear hp10 hs10 hD10 hH10 hO10 hL1 hk3a hk3b hk3c ho3 hop
      go_wp2_with fail
      refine HOP.out.mono ?_
      rintro e w11 ⟨xh, P11, A11, Ad11, D11, Ln, rfl, hs11, hM11, hD11, hO11, hmap11, -, -, -, hH11⟩
      have hne11 : Ln ≠ [] := by
        intro h
        rw [h] at hmap11
        have := congrArg List.length hmap11
        simp at this
        exact HL1.out (List.eq_nil_of_length_eq_zero this.symm)
      obtain ⟨HX, hHX⟩ : ∃ H, H = (⟨dx, qa + 1, 60, Ln⟩ : Hl) := ⟨_, rfl⟩
      rw [← hHX] at hM11 hO11
      have hne11' : HX.L ≠ [] := by rw [hHX]; exact hne11
      have hend11 : HX.end_ = o3 := (hO11.hend hne11').trans HO3.out
      have hD11' : DkM P11 HX.d D11 Ad11 := by rw [hHX]; exact hD11
      have HM11 := Lib.hid hM11
      have HD11 := Lib.hid hD11'
      have HO11 := Lib.hid hO11
      have HNE11 := Lib.hid hne11'
      have HEND11 := Lib.hid hend11
      have HS11 := Lib.hid (HS10.out.trans hs11)
      have H11 := Lib.hid hH11
      clear hs11 hM11 hD11 hD11' hO11 hmap11 hne11 hne11' hend11 hH11 hHX
      go_wp2_with fail
      refine (hend_ok HM11.out HO11.out.W H11.out).mono ?_
      rintro e w12 ⟨rfl, hH12⟩
      rw [HEND11.out]
      go_wp2_with fail
      refine (at10_ok (HB3.out.sub HS11.out) HM2.out HOK.out kk (by rw [HLL.out]; exact hkkn) (by rw [HLL.out]; omega) o HO.out hH12).mono ?_
      rintro e w13 ⟨rfl, hH13⟩
      have H13 := Lib.hid hH13
      have hlt : ¬ o3 < o := by omega
      clear hH12 hH13
      have heq : o3 = o := by rw [← HO3.out, HK3C.out trivial, HO.out]
      have hbne : (o3 != o) = false := by simp [heq]
      have HEQ := Lib.hid heq
      clear heq
      go_wp2_with fail
      refine (hend_ok HM11.out HO11.out.W H13.out).mono ?_
      rintro e w14 ⟨rfl, hH14⟩
      rw [HEND11.out]
      go_wp2_with fail
      refine (at10_ok (HB3.out.sub HS11.out) HM2.out HOK.out kk (by rw [HLL.out]; exact hkkn) (by rw [HLL.out]; omega) o HO.out hH14).mono ?_
      rintro e w15 ⟨rfl, hH15⟩
      have H15 := Lib.hid hH15
      clear hH14 hH15
      go_wp2_with fail
    case' inr =>
      rw [HX4.out.1] at hD6
      have hnd6 := hD6.blks_nd (Hp.mid hH7)
      have hxx : H4 = ⟨dx, qa + 1, 60, H4.L⟩ := by obtain ⟨q1, q2, q3⟩ := HX4.out; rw [← q1, ← q2, ← q3]
      have hst := crst_gone (D := D4) (H := H4) (dd := dx) (seg := qa + 1) (every := 60) (l := L) (kk := kk) (D6 := D6) (L1 := L1) (L2 := L2) (by rw [← hxx]; exact HO4.out) HWH.out hL6 hL1 (by rw [HLL.out]; exact hkkn) (fun p hp => by rw [HO.out]; exact hb6 p hp) (by rw [HUN.out] at he6; exact he6) hnd6
      have HST := Lib.hid hst
      have HD6 := Lib.hid hD6
      have HS6 := Lib.hid hs6
      have H7 := Lib.hid hH7
      have HDW := Lib.hid hoff.down
      clear hnd6 hxx hst hs6 hM6 hD6 hL6 hoff hL1 hb6 he6 hH7
      go_wp2_with fail
      refine (ddown_ok HD6.out (Hp.mid H7.out)).mono ?_
      rintro e w' ⟨rfl, rfl⟩
      rw [HDW.out]
      have H9 := Lib.hid (Hp.mid H7.out)
      go_wp2_with fail
      obtain ⟨hW6, hn6, hc6, hk6, hq6⟩ := HST.out
      obtain ⟨q, hq⟩ : ∃ q, pickF ps 0 D6.ch.length = q := ⟨_, rfl⟩
      obtain ⟨hi6, hf6, hcr6⟩ := hq6 q
      have hcrash := crash_ok HD6.out hW6 hc6 hk6 q a4 ps cap4 hq hi6 hf6 (by omega) (HCQ.out.sub (HS3.out.trans HS6.out)) H9.out
      rw [HNP.out] at hcrash
      have HCRA := Lib.hid hcrash
      have HCR6 := Lib.hid hcr6
      clear hW6 hn6 hc6 hk6 hq6 hi6 hf6 hcrash hcr6 hq
      go_wp2_with fail
      refine HCRA.out.mono ?_
      rintro e w10 ⟨rfl, p, P10, Ad10, hp10, hs10, hD10, hH10⟩
      obtain ⟨L1, k3, hO10, hL1, hk3a, hk3b, hk3c⟩ := HCR6.out p hp10
      obtain ⟨o3, ho3⟩ : ∃ o, endOf ((0 : Nat) : Int) (L.take k3) = o := ⟨_, rfl⟩
      have ho33 : o ≤ o3 := by
        rw [← HO.out, ← ho3]
        rcases Nat.lt_or_ge kk k3 with h | h
        · exact Int.le_of_lt (endOf_mono HR.out HCH.out h hk3b)
        · rw [show k3 = kk by omega]; exact Int.le_refl _
      have hop := hopen_on ((HC3.out.sub HS6.out).sub hs10) hD10 hO10 (by omega) (by omega) hH10
      have HOP := Lib.hid hop
      have HK3 := Lib.hid (show kk ≤ k3 ∧ k3 ≤ L.length from ⟨hk3a, hk3b⟩)
      have HK3C := Lib.hid hk3c
      have HO3 := Lib.hid ho3
      have HS10 := Lib.hid (HS6.out.trans hs10)
      have HL1 := Lib.hid hL1
      clear hp10 hs10 hD10 hH10 hO10 hL1 hk3a hk3b hk3c ho3 hop
      go_wp2_with fail
      refine HOP.out.mono ?_
      rintro e w11 ⟨xh, P11, A11, Ad11, D11, Ln, rfl, hs11, hM11, hD11, hO11, hmap11, -, -, -, hH11⟩
      have hne11 : Ln ≠ [] := by
        intro h
        rw [h] at hmap11
        have := congrArg List.length hmap11
        simp at this
        exact HL1.out (List.eq_nil_of_length_eq_zero this.symm)
      obtain ⟨HX, hHX⟩ : ∃ H, H = (⟨dx, qa + 1, 60, Ln⟩ : Hl) := ⟨_, rfl⟩
      rw [← hHX] at hM11 hO11
      have hne11' : HX.L ≠ [] := by rw [hHX]; exact hne11
      have hend11 : HX.end_ = o3 := (hO11.hend hne11').trans HO3.out
      have hD11' : DkM P11 HX.d D11 Ad11 := by rw [hHX]; exact hD11
      have HM11 := Lib.hid hM11
      have HD11 := Lib.hid hD11'
      have HO11 := Lib.hid hO11
      have HNE11 := Lib.hid hne11'
      have HEND11 := Lib.hid hend11
      have HS11 := Lib.hid (HS10.out.trans hs11)
      have H11 := Lib.hid hH11
      clear hs11 hM11 hD11 hD11' hO11 hmap11 hne11 hne11' hend11 hH11 hHX
      go_wp2_with fail
      refine (hend_ok HM11.out HO11.out.W H11.out).mono ?_
      rintro e w12 ⟨rfl, hH12⟩
      rw [HEND11.out]
      go_wp2_with fail
      refine (at10_ok (HB3.out.sub HS11.out) HM2.out HOK.out kk (by rw [HLL.out]; exact hkkn) (by rw [HLL.out]; omega) o HO.out hH12).mono ?_
      rintro e w13 ⟨rfl, hH13⟩
      have H13 := Lib.hid hH13
      have hlt : ¬ o3 < o := by omega
      clear hH12 hH13
      have H15 := Lib.hid H13.out
      go_wp2_with fail
    all_goals
      have hk3n : k3 ≤ n := by have := HK3.out.2; have h2 := HLL.out; omega
      have hszk : sizes (L.take k3) ≤ 1048576 := by
        have h1 := sizes_mono L k3 L.length HK3.out.2
        rw [List.take_length] at h1
        exact Nat.le_trans h1 HSZ.out
      refine (all10_ok (HC3.out.sub HS11.out) HM11.out HO11.out HNE11.out HD11.out hszk (by rw [List.length_take]; have := HLL.out; omega) H15.out).mono ?_
      rintro e w16 ⟨v16, out16, P16, rfl, hs16, hm16, hb16, hH16⟩
      obtain ⟨sa, sc, hva16, -⟩ := hb16.shape
      subst hva16
      have HM16 := Lib.hid hm16
      have HB16 := Lib.hid hb16
      have HS16 := Lib.hid (HS11.out.trans hs16)
      have H16 := Lib.hid hH16
      have HSZK := Lib.hid hszk
      clear hs16 hm16 hb16 hH16 hszk
      go_wp2_with fail
      go_loopg [22] n (fun m vi wr => ∃ i : Nat, i + m = n ∧ i ≤ k3 ∧ vi = .int .i64 i ∧ Hp wr P16 (A11 ++ (Ad11 ++ (A6 ++ []))))
      case atStart => exact ⟨0, by omega, Nat.zero_le _, rfl, H16.out⟩
      case round =>
        obtain ⟨i, hi, hik, rfl, hHr⟩ := hrel
        have HHR := Lib.hid hHr
        clear hHr
        by_cases hin : i < n
        · obtain ⟨gj, rfl⟩ : ∃ x, gk = x + 1 := ⟨gk - 1, by omega⟩
          have hio : i < out2.length := by rw [HO2.out]; exact hin
          have hiL : i < L.length := by rw [HLL.out]; exact hin
          obtain ⟨g, off, cap, hvv, hcap, hbc⟩ := HB3.out.at_ hio
          rw [HO2.out] at hvv hcap
          simp only [Value.slice.injEq] at hvv
          obtain ⟨rfl, -, rfl⟩ := hvv
          obtain ⟨x, hx⟩ : ∃ x, L[i] = x := ⟨_, rfl⟩
          have hxi : (out2[i]'hio).1 = x := by
            have h1 : (out2.map (·.1))[i]? = some x := by rw [HM2.out, List.getElem?_eq_getElem hiL, hx]
            rw [List.getElem?_map, List.getElem?_eq_getElem hio] at h1
            simpa using h1
          obtain ⟨p2, hp2⟩ : ∃ p2, (out2[i]'hio).2 = p2 := ⟨_, rfl⟩
          have hbc16 := hbc.sub HS16.out
          obtain ⟨-, c0, c1, c2, -⟩ := HHR.out.use hbc16
          rw [hxi] at c0 c1
          rw [hp2] at c2
          have hbv : Pers P16 (fun w => BtV w (.agg #[.int .i64 x.b, .int .i64 x.e, p2]) x) := hbc16.imp (fun w1 h => by
            obtain ⟨-, -, -, -, h5⟩ := h
            rw [hxi, hp2] at h5
            exact ⟨_, rfl, h5⟩)
          obtain ⟨hxo, -⟩ := HOK.out x (by rw [← hx]; exact List.getElem_mem _)
          obtain ⟨nx, hnx⟩ : ∃ m, x.b + (x.r.length : Int) = m := ⟨_, rfl⟩
          have hnx2 : nx = endOf ((0 : Nat) : Int) (L.take (i + 1)) := by rw [← hnx, take_next L i hiL, hx, endOf_snoc]
          have hcs : (i < k3 ∧ nx ≤ o3) ∨ (i = k3 ∧ ¬ nx ≤ o3) := by
            rcases Nat.lt_or_ge i k3 with h | h
            · left
              refine ⟨h, ?_⟩
              rw [hnx2, ← HO3.out]
              rcases Nat.lt_or_ge (i + 1) k3 with h2 | h2
              · exact Int.le_of_lt (endOf_mono HR.out HCH.out h2 HK3.out.2)
              · rw [show i + 1 = k3 by omega]; exact Int.le_refl _
            · right
              have he : i = k3 := by omega
              refine ⟨he, ?_⟩
              have := endOf_mono HR.out HCH.out (i := i) (j := i + 1) (by omega) hiL
              rw [← hnx2, he, HO3.out] at this
              omega
          have j1 : (i : Int) < (n : Int) := by omega
          have j2 : (0 : Int) ≤ (i : Int) := by omega
          have HBV := Lib.hid hbv
          have HXO := Lib.hid hxo
          have HNXT := Lib.hid hnx
          have HI := Lib.hid hi
          clear hbc hbc16 hx hxi hp2 hbv hxo hnx hnx2 hi
          rcases hcs with ⟨q1, q2⟩ | ⟨q1, q2⟩
          · go_wp2_with fail
            refine (rnext_any x (by have := HXO.out.b0; omega) (by have := HXO.out.b1; omega) (by have := HXO.out.n64; omega) _ _ (HHR.out.use HBV.out)).mono ?_
            rintro e w17 ⟨rfl, hb17⟩
            rw [HNXT.out]
            have H17 := Lib.hid (HHR.out.below hb17 (Nat.le_refl _))
            clear hb17
            go_wp2_with fail
            refine (hend_ok HM11.out HO11.out.W H17.out).mono ?_
            rintro e w18 ⟨rfl, hH18⟩
            rw [HEND11.out]
            have H18 := Lib.hid hH18
            clear hH18
            go_wp2_with fail
            go_roundg gj
            case measure => have := HI.out; omega
            case rel => exact ⟨i + 1, by have := HI.out; omega, by omega, by simp, H18.out⟩
          · have HQ1 := Lib.hid q1
            clear q1
            go_wp2_with fail
            refine (rnext_any x (by have := HXO.out.b0; omega) (by have := HXO.out.b1; omega) (by have := HXO.out.n64; omega) _ _ (HHR.out.use HBV.out)).mono ?_
            rintro e w17 ⟨rfl, hb17⟩
            rw [HNXT.out]
            have H17 := Lib.hid (HHR.out.below hb17 (Nat.le_refl _))
            clear hb17
            go_wp2_with fail
            refine (hend_ok HM11.out HO11.out.W H17.out).mono ?_
            rintro e w18 ⟨rfl, hH18⟩
            rw [HEND11.out]
            have H18 := Lib.hid hH18
            clear hH18
            have hik3 : i = k3 := HQ1.out
            subst hik3
            have r1 : Pers P16 (fun w => BtsR w (.slice sa out16.length sc) (L.take i)) := by
              have := HB16.out.read
              rw [HM16.out] at this
              exact this
            have r2 : Pers P16 (fun w => BtsR w (.slice (some ⟨g, off, none⟩) i vc) (L.take i)) := by
              have := ((HB3.out.sub HS16.out).take i (by rw [HO2.out]; omega)).read
              rw [List.map_take, HM2.out] at this
              exact this
            have hjo := fun w' (hx : Hp w' P16 (A11 ++ (Ad11 ++ (A6 ++ [])))) => joined10_ok (hx.use r1) (hx.use r2) (by rw [List.length_take]; have := HLL.out; omega) (fun x hx => (HOK.out x (List.mem_of_mem_take hx)).1.sm)
            have HJO := Lib.hid hjo
            have l1 : (i : Int) ≤ (vc : Int) := by omega
            have l2 : (0 : Int) ≤ (i : Int) := by omega
            have hin2 : i ≤ n := by omega
            clear r1 r2 hjo
            go_wp2_with fail
            refine (HJO.out _ H18.out).mono ?_
            rintro e w19 ⟨rfl, hb19⟩
            have H19 := Lib.hid (H18.out.below hb19 (Nat.le_refl _))
            clear hb19
            go_wp2_with fail
            refine (at10_ok (HB3.out.sub HS16.out) HM2.out HOK.out i (by rw [HLL.out]; exact hin2) (by rw [HLL.out]; omega) o3 HO3.out H19.out).mono ?_
            rintro e w20 ⟨rfl, hH20⟩
            have H20 := Lib.hid hH20
            clear hH20
            go_wp2_with fail
            refine (hend_ok HM11.out HO11.out.W H20.out).mono ?_
            rintro e w21 ⟨rfl, hH21⟩
            rw [HEND11.out]
            have HB21 := Lib.hid (hH21.to_below (HS3.out.trans HS16.out))
            clear hH21
            go_wp2_with fail
            go_ret
            exact ⟨by simp, HB21.out⟩
        · have hik3 : i = k3 := by omega
          have H18 := Lib.hid HHR.out
          obtain ⟨g, off, cap, hvv, hcap, -⟩ := HB3.out.at_ (k := 0) (by rw [HO2.out]; omega)
          rw [HO2.out] at hvv hcap
          simp only [Value.slice.injEq] at hvv
          obtain ⟨rfl, -, rfl⟩ := hvv
          have j3 : ¬ (i : Int) < (n : Int) := by omega
          have HI := Lib.hid hi
          clear hi
          subst hik3
          have r1 : Pers P16 (fun w => BtsR w (.slice sa out16.length sc) (L.take i)) := by
            have := HB16.out.read
            rw [HM16.out] at this
            exact this
          have r2 : Pers P16 (fun w => BtsR w (.slice (some ⟨g, off, none⟩) i vc) (L.take i)) := by
            have := ((HB3.out.sub HS16.out).take i (by rw [HO2.out]; omega)).read
            rw [List.map_take, HM2.out] at this
            exact this
          have hjo := fun w' (hx : Hp w' P16 (A11 ++ (Ad11 ++ (A6 ++ [])))) => joined10_ok (hx.use r1) (hx.use r2) (by rw [List.length_take]; have := HLL.out; omega) (fun x hx => (HOK.out x (List.mem_of_mem_take hx)).1.sm)
          have HJO := Lib.hid hjo
          have l1 : (i : Int) ≤ (vc : Int) := by omega
          have l2 : (0 : Int) ≤ (i : Int) := by omega
          have hin2 : i ≤ n := by omega
          clear r1 r2 hjo
          go_wp2_with fail
          refine (HJO.out _ H18.out).mono ?_
          rintro e w19 ⟨rfl, hb19⟩
          have H19 := Lib.hid (H18.out.below hb19 (Nat.le_refl _))
          clear hb19
          go_wp2_with fail
          refine (at10_ok (HB3.out.sub HS16.out) HM2.out HOK.out i (by rw [HLL.out]; exact hin2) (by rw [HLL.out]; omega) o3 HO3.out H19.out).mono ?_
          rintro e w20 ⟨rfl, hH20⟩
          have H20 := Lib.hid hH20
          clear hH20
          go_wp2_with fail
          refine (hend_ok HM11.out HO11.out.W H20.out).mono ?_
          rintro e w21 ⟨rfl, hH21⟩
          rw [HEND11.out]
          have HB21 := Lib.hid (hH21.to_below (HS3.out.trans HS16.out))
          clear hH21
          go_wp2_with fail
          go_ret
          exact ⟨by simp, HB21.out⟩
end Go.Proofs.YthocnhdefnbchaaGreatDoor.Sg

/-! Cy -/
namespace Go.Proofs.YthocnhdefnbchaaGreatDoor.Sg
open Go.RowKit Er

def l12 : List Nat := [0, 1, 2, 3, 4, 5, 6, 7, 8, 9, 12, 14]
theorem l12_all : ∀ i, i < 10 ∨ i = 14 → i ∈ l12 := by
  intro i hi
  rcases hi with hi | rfl
  · have : ∀ j : Fin 10, j.val ∈ l12 := by decide
    exact this ⟨i, hi⟩
  · decide
theorem l19_all2 : ∀ i, i < 10 ∨ i = 14 → i ∈ List.range 19 := by intro i hi; rw [List.mem_range]; omega

theorem tab_of2 {rest : List (String × DataW Unit)} {W : World} (h : laidMet Tryz.prog (("math/bits.deBruijn32tab", Rows.laid_math_bits_deBruijn32tab) :: ("math/bits.deBruijn64tab", Rows.laid_math_bits_deBruijn64tab) :: ("internal/strconv.uint64pow10", Rows.laid_internal_strconv_uint64pow10) :: rest) W) :
    Lib.TabIs Tryz.prog W "internal/strconv.uint64pow10" .u64 Lib.pow10Tab ∧ laidMet Tryz.prog rest W := by
  have h2 := laidMet.tail (laidMet.tail h)
  refine ⟨?_, laidMet.tail h2⟩
  exact Lib.tabIs_of_head (zs := Lib.pow10Tab) (k := .u64) (g := 19) (t := 284) (e := 155) (n := 20) (by kernel_rfl) (by kernel_rfl) (by kernel_rfl) (by kernel_rfl) (by kernel_rfl) (by kernel_rfl) h2
theorem hlaid12 {W : World} (h : laidMet Tryz.prog Rows.hotRecoversRow.laid W) (hsz : gmax ≤ W.heap.size) : Lib.TabIs Tryz.prog W "internal/strconv.uint64pow10" .u64 Lib.pow10Tab ∧ Errs l12 W (errAt W) W.heap.size := by
  obtain ⟨h1, h2⟩ := tab_of2 h
  exact ⟨h1, errs_of_laid l12 (by decide) h2 hsz⟩
theorem hlaid19 {W : World} (h : laidMet Tryz.prog Rows.hotReadsRow.laid W) (hsz : gmax ≤ W.heap.size) : Lib.TabIs Tryz.prog W "internal/strconv.uint64pow10" .u64 Lib.pow10Tab ∧ Errs (List.range 19) W (errAt W) W.heap.size := by
  obtain ⟨h1, h2⟩ := tab_of2 h
  exact ⟨h1, errs_of_laid (List.range 19) (by decide) h2 hsz⟩

end Go.Proofs.YthocnhdefnbchaaGreatDoor.Sg

/-! HotCutsRow -/
namespace Go.Proofs.YthocnhdefnbchaaGreatDoor.hotCuts
open Go.ChangeShapes Go.WideShapes Go.ChangeAt Go.RowKit
open Go.Proofs.YthocnhdefnbchaaGreatDoor.Sg
set_option linter.unusedVariables false
set_option maxRecDepth 100000 in
theorem contract (H : Type) (enc : TypeId × Value → H) (W : World) (base : Nat) (args : Array Value) (ds gs : List (DataW H)) (before : List MemPlace)
    (hval0 : ∀ (j : Nat) t v, Tryz.f8.params[j]? = some t → args[j]? = some v → Value.okWide Tryz.prog W .any base t v)
    (hW : DataW.Whole enc Tryz.prog Tryz.f8.params.toList Rows.hotCutsSpec.vars false W args.toList ds gs before) (hL : laidMetH Tryz.prog Rows.hotCutsRow.laid W) (hsh : W.ShapedOpen Tryz.prog) :
    Calls Tryz.prog 8 args W fun e W' => ∃ v, e = .returned v ∧ Rows.hotCutsSpec.post enc Tryz.prog Tryz.f8 false true false false W args v W' := by
  have hval : ∀ (j : Nat) t v, Tryz.f8.params[j]? = some t → args[j]? = some v → Value.okWide Tryz.prog W .any base t v := hval0
  have hW' := hW
  obtain ⟨p, q, hA0, hV, rfl, hfz, hnd⟩ := hW
  have hA : DataW.TrodAll enc Tryz.prog W 0 (fun _ => true) true Tryz.f8.params.toList args.toList ds p := hA0
  rw [Tryz.params8] at hA hval
  obtain ⟨v0, vs0, d0, ds0, p0, q0, hargs, rfl, rfl, h0, r0⟩ := trodAll_cons hA
  obtain ⟨v1, vs1, d1, ds1, p1, q1, rfl, rfl, rfl, h1, r1⟩ := trodAll_cons r0
  obtain ⟨v2, vs2, d2, ds2, p2, q2, rfl, rfl, rfl, h2, r2⟩ := trodAll_cons r1
  obtain ⟨v3, vs3, d3, ds3, p3, q3, rfl, rfl, rfl, h3, r3⟩ := trodAll_cons r2
  obtain ⟨v4, vs4, d4, ds4, p4, q4, rfl, rfl, rfl, h4, r4⟩ := trodAll_cons r3
  obtain ⟨rfl, rfl, rfl⟩ := trodAll_nil r4
  obtain rfl : args = #[v0, v1, v2, v3, v4] := by cases args; simp_all
  obtain ⟨rfl, rfl⟩ := trodVars_none hV
  obtain ⟨a0, len0, cap0, rfl⟩ := okWide_slice Tryz.underlying50 (hval 0 50 v0 rfl rfl)
  have k0 := h0
  have lt0 : ∀ x ∈ p0, x.block < W.heap.size := by obtain ⟨m, hm⟩ := k0; exact DataW.trod_lt m _ _ _ hm
  obtain ⟨z0, w0⟩ : ∃ zs, IsRow W a0 len0 cap0 zs := by
    obtain ⟨fuel, hf⟩ := h0
    rcases open_ints Tryz.underlying50 Tryz.underlying3 (by kernel_rfl) hf with ⟨hcs, _⟩ | ⟨x, l, c, zs, hcs, _, hl, hm, hz, _, hcell, hwz⟩
    · simp [Value.cells] at hcs
      obtain ⟨rfl, rfl, rfl⟩ := hcs
      exact ⟨[], .inl ⟨rfl, rfl, rfl, rfl⟩⟩
    · simp [Value.cells] at hcs
      obtain ⟨rfl, rfl, rfl⟩ := hcs
      exact ⟨zs, .inr ⟨_, rfl, hl, hm, by simpa using hz, hcell, hwz⟩⟩
  obtain ⟨a1, rfl, rfl, rfl, w1⟩ := open_int Tryz.underlying3 (hval 1 3 v1 rfl rfl) h1
  obtain ⟨a2, rfl, rfl, rfl, w2⟩ := open_int Tryz.underlying3 (hval 2 3 v2 rfl rfl) h2
  obtain ⟨a3, rfl, rfl, rfl, w3⟩ := open_int Tryz.underlying3 (hval 3 3 v3 rfl rfl) h3
  obtain ⟨a4, len4, cap4, rfl⟩ := okWide_slice Tryz.underlying50 (hval 4 50 v4 rfl rfl)
  have k4 := h4
  have lt4 : ∀ x ∈ p4, x.block < W.heap.size := by obtain ⟨m, hm⟩ := k4; exact DataW.trod_lt m _ _ _ hm
  obtain ⟨z4, w4⟩ : ∃ zs, IsRow W a4 len4 cap4 zs := by
    obtain ⟨fuel, hf⟩ := h4
    rcases open_ints Tryz.underlying50 Tryz.underlying3 (by kernel_rfl) hf with ⟨hcs, _⟩ | ⟨x, l, c, zs, hcs, _, hl, hm, hz, _, hcell, hwz⟩
    · simp [Value.cells] at hcs
      obtain ⟨rfl, rfl, rfl⟩ := hcs
      exact ⟨[], .inl ⟨rfl, rfl, rfl, rfl⟩⟩
    · simp [Value.cells] at hcs
      obtain ⟨rfl, rfl, rfl⟩ := hcs
      exact ⟨zs, .inr ⟨_, rfl, hl, hm, by simpa using hz, hcell, hwz⟩⟩
  have hL0 := hL
  rw [MakeChecks.laidMetH_plain _ _ _ (by kernel_rfl)] at hL0
  obtain ⟨hT, hE⟩ := hlaid12 (W := W) hL0 (Er.gmax_le hsh)
  clear hA0 hval0
  refine (hotcuts_all a0 len0 cap0 z0 a1 a2 a3 a4 len4 cap4 z4 W w0 w4 l12_all hE hT).mono fun e W' ⟨he, bel⟩ => ?_
  subst he
  exact ⟨_, rfl, _, _, _, [], _, [], hW', trodAll_mk1 (shut_bool Tryz.underlying4 _), (trodAll_cons_mk (Below.trod laidOut (by kernel_rfl) (of_decide_eq_true (by kernel_rfl)) k0 bel lt0) (trodAll_cons_mk (shut_int Tryz.underlying3 w1) (trodAll_cons_mk (shut_int Tryz.underlying3 w2) (trodAll_cons_mk (shut_int Tryz.underlying3 w3) (trodAll_cons_mk (Below.trod laidOut (by kernel_rfl) (of_decide_eq_true (by kernel_rfl)) k4 bel lt4) trodAll_mk0))))), rfl, bel.frame _, fun h => by cases h⟩

set_option maxRecDepth 100000 in
theorem lifted (os : Os) (started : os.Started) (H : Type) (enc : TypeId × Value → H) (F : Stop.Interp) :
    ReturnsInHanded {} Tryz.checked os 8 .any ((OpenSpec.ofChange Rows.hotCutsSpec).preRow enc Tryz.prog Tryz.f8 Rows.hotCutsRow.domain false Rows.hotCutsRow.laid) (((OpenSpec.ofChange Rows.hotCutsSpec).at F).post enc Tryz.prog Tryz.f8 false true false false) := by
  obtain ⟨places, hx⟩ := reads os enc
  refine returnsInHanded_of_row (C := Tryz.checked) (s := OpenSpec.ofChange Rows.hotCutsSpec) own started (by kernel_rfl) Tryz.func8
    (witness_row_atRef (enc := enc) (C := Tryz.checked) false (World.doorLaid Tryz.prog 400 os) #[.slice none 0 0, .int .i64 0, .int .i64 0, .int .i64 0, .slice none 0 0] rfl (by kernel_rfl) (by kernel_rfl) (by kernel_rfl)
      (OpenSpec.preRow_of_cond 8 hx (by kernel_rfl) (fun k hk => by cases hk) (by kernel_rfl) (door_met os _))) ?_
  intro W base args ds gs before hval hW _ _ _ hL hsh _
  exact contract H enc W base args ds gs before hval hW hL hsh

theorem said : Rows.HotCutsSaid :=
  OpenClaim.holds_of_cond 8 Tryz.f8 rfl rfl rfl rfl rfl rfl rfl ⟨rfl, rfl, rfl, rfl, rfl⟩ rfl rfl rfl rfl rfl (by kernel_rfl) Tryz.func8 closed
    (of_decide_eq_true (by kernel_rfl)) (by unfold Func.isWrapper; rw [if_neg (of_decide_eq_false (by kernel_rfl))]; exact ⟨rfl, rfl⟩)
    (fun os started H enc _ F => by rw [OpenClaim.pre_eq_preRow]; exact lifted os started H enc F)

theorem card : Rows.HotCutsCardSaid :=
  Claim7.holds_tied_plain_at .later [] _ _ _ _ said (fun _ h => by cases h) (by kernel_rfl) (fun _ h => by cases h) hotCuts_row_tie rfl ⟨rfl, rfl⟩ (by kernel_rfl) rfl plain (by kernel_rfl)

#print axioms card
end Go.Proofs.YthocnhdefnbchaaGreatDoor.hotCuts
