/- cordwoodlaw10.HotReads: the walk up to the loops. The table of powers and the errors out of the lists of chapter 10's rows. The statement HotReads of chapter 10 holds for every input: the call returns true and leaves its arguments as they were. -/
import Derived.Test.YthocnhdefnbchaaGreatDoorMHotReadsA
import Derived.Test.YthocnhdefnbchaaGreatDoorMf
import Derived.Test.YthocnhdefnbchaaGreatDoorRows
import Derived.Test.YthocnhdefnbchaaGreatDoorMHotReadsB
import Derived.Test.YthocnhdefnbchaaGreatDoorCards
import Derived.Test.YthocnhdefnbchaaGreatDoorTie
import Derived.Stop.LaidErr
import Derived.ProofKit
import Derived.OpenShut
import Derived.LaidMore
import Derived.Deep.DeepWitnessRowRef

/-! Jc -/
namespace Go.Proofs.YthocnhdefnbchaaGreatDoor.Sg
open Go.RowKit Er Go.Maps

theorem permNA (At Ax Ad : Mm) : List.Perm (At ++ (Ax ++ (Ad ++ []))) (Ax ++ (Ad ++ At)) := by
  have := perm_mid At (Ax ++ Ad) []
  simpa [List.append_assoc] using this
theorem permNB (At Ax Ad : Mm) : List.Perm (Ax ++ (Ad ++ At)) (At ++ (Ax ++ Ad)) := by
  have := perm_mid (Ax ++ Ad) At []
  simpa [List.append_assoc] using this
theorem TriM.getr {P : Pm} {w : World} {Ap F : Mm} {v : Value} {l : List Tri} (hr : TriM v l Ap) (hH : Hp w P (Ap ++ F)) {j : Nat} (hj : j < l.length) : ∃ g c, v = .slice (some ⟨g, 0, none⟩) l.length c ∧ l.length ≤ c ∧ w.cell? ⟨g, j * 3, none⟩ = some (.int .i64 (l[j]).1) ∧ w.cell? ⟨g, j * 3 + 1, none⟩ = some (.int .i64 (l[j]).2.1) := by
  obtain ⟨h1, h2, h3⟩ := triV_at l j l[j] (List.getElem?_eq_getElem hj)
  obtain ⟨g, c, e1, e2, e3⟩ := RowM.cell hr hH h1
  obtain ⟨g', c', e4, e5, e6⟩ := RowM.cell hr hH h2
  rw [e1] at e4
  cases e4
  exact ⟨g, c, e1, e2, e3, e6⟩
/-- What lies behind a segment begins behind it. -/
theorem HotOn.behind {D : Dk} {H : Hl} {b0 : Int} {l : List Bt} (hO : HotOn D H b0 l) {L1 L2 : List (Nat × Sg)} {s : Nat} {G : Sg} (hL : H.L = L1 ++ (s, G) :: L2) {k : Nat} (hk : k < H.L.length) (hq : L1.length < k) : G.end_ ≤ (H.L[k]).2.base := by
  have hsp : H.L = H.L.take k ++ ((H.L[k]).1, (H.L[k]).2) :: H.L.drop (k + 1) := HlM.nth k hk
  refine (hO.before hsp (p := (s, G)) ?_).1
  have h1 : H.L[L1.length]'(by omega) = (s, G) := by simp [hL]
  exact List.mem_take_iff_getElem.2 ⟨L1.length, by omega, h1⟩

set_option maxRecDepth 100000 in
set_option maxHeartbeats 8000000 in
theorem hotreads_all (a0 : Option Addr) (len0 cap0 : Nat) (z0 : List Int) (a b most : Int) (W : World) (h : IsRow W a0 len0 cap0 z0) (hm1 : -9223372036854775808 ≤ most) (hm2 : most ≤ 9223372036854775807) (hS : ∀ i, i < 10 ∨ i = 14 → i ∈ List.range 19) (hE : Errs (List.range 19) W (errAt W) W.heap.size)
    (hT : Lib.TabIs Tryz.prog W "internal/strconv.uint64pow10" .u64 Lib.pow10Tab) :
    Calls Tryz.prog 4 #[.slice a0 len0 cap0, .int .i64 a, .int .i64 b, .int .i64 most] W fun e W' => e = .returned (.bool true) ∧ Below W.heap.size W W' := by
  have C := ctx_start hS hE hT
  obtain ⟨xs, rfl, hC⟩ := isRow_C h
  have hCp := ints_pers hC
  have H0 : Hid (Hp W (Pm.start W) []) := Hp.start W
  clear h hC hE hT
  have HCP := Lib.hid hCp
  clear hCp
  by_cases hlen : 20 < xs.length
  · go_enter Tryz.func4, Tryz.ntmps4
    go_wp2_with fail
    refine (first10_ok C H0.out).mono ?_
    rintro e w1 ⟨rfl, P1, hs1, hH1⟩
    have HB := Lib.hid (hH1.to_below hs1)
    clear hH1 hs1
    go_wp2_with fail
    go_ret
    exact ⟨rfl, HB.out⟩
  · have hl1 : xs.length ≤ 20 := by omega
    obtain ⟨hch, hok, hsz, hen1, hen2⟩ := row20b 3 xs 4 (by omega) hl1
    obtain ⟨L, hLd⟩ : ∃ L, L = rowGo 3 xs 0 ((4 : Nat) : Int) := ⟨_, rfl⟩
    have hll : L.length = xs.length := by rw [hLd]; exact row_len 3 xs 0 _
    rw [← hLd] at hch hok hsz hen1 hen2
    obtain ⟨n, hn⟩ : ∃ n, xs.length = n := ⟨_, rfl⟩
    rw [hn] at hl1 hll hen1 hen2
    obtain ⟨en, hen⟩ : ∃ en, endOf ((4 : Nat) : Int) L = en := ⟨_, rfl⟩
    rw [hen] at hen1 hen2
    have e1 : 4 ≤ en := by omega
    have e2 : en ≤ 104 := by omega
    obtain ⟨om, hom⟩ : ∃ om, b % (en - 1) = om := ⟨_, rfl⟩
    have om0 : 0 ≤ om := by rw [← hom]; exact Int.emod_nonneg _ (by omega)
    have om1 : om < en - 1 := by rw [← hom]; exact Int.emod_lt_of_pos _ (by omega)
    obtain ⟨qa, hqa⟩ : ∃ q : Nat, a % ((300 : Nat) : Int) = (q : Int) := ⟨(a % 300).toNat, by omega⟩
    have hqa5 : qa < 300 := by omega
    have HQA := Lib.hid hqa
    have HOM := Lib.hid hom
    have HLD := Lib.hid hLd
    have HCH := Lib.hid hch
    have HOK := Lib.hid hok
    have HSZ := Lib.hid hsz
    have HEN0 := Lib.hid hen
    have HLL := Lib.hid hll
    have HNX := Lib.hid hn
    rw [hn]
    clear hlen hLd hch hok hsz hll hn hqa hen hen1 hen2 hom
    go_enter Tryz.func4, Tryz.ntmps4
    go_wp2_with fail
    refine (first10_ok C H0.out).mono ?_
    rintro e w1 ⟨rfl, P1, hs1, hH1⟩
    have H1 := Lib.hid hH1
    have HS1 := Lib.hid hs1
    clear hH1 hs1
    go_wp2_with fail
    refine (number_any a 300 (by omega) (by omega) _).mono ?_
    rintro e w' ⟨rfl, rfl⟩
    rw [HQA.out]
    go_wp2_with fail
    rw [show (qa : Int) + 1 = ((qa + 1 : Nat) : Int) from rfl]
    refine (row_m H1.out a0 xs cap0 n HNX.out (HCP.out.sub HS1.out) 3 (by decide) (by omega) 4 (by decide) (by decide)).mono ?_
    rintro e w2 ⟨v2, P2, out2, rfl, hs2, hm2, hb2, hH2⟩
    have hm2' : out2.map (·.1) = L := hm2.trans HLD.out.symm
    have hol : out2.length = n := by have := congrArg List.length hm2'; rw [List.length_map, HLL.out] at this; exact this
    have H2 := Lib.hid hH2
    have HB2 := Lib.hid hb2
    have HM2 := Lib.hid hm2'
    have HO2 := Lib.hid hol
    have HS2 := Lib.hid (HS1.out.trans hs2)
    have HC2 := Lib.hid (C.sub (HS1.out.trans hs2))
    clear hm2 hs2 hb2 hH2 hm2' hol
    obtain ⟨va, vc, hva, hvc⟩ := HB2.out.shape
    rw [HO2.out] at hva hvc
    subst hva
    go_wp2_with fail
    refine (made10_ok HC2.out (qa + 1) (by omega) (by omega) 4 (by omega) _ out2 HB2.out L HM2.out HCH.out HOK.out HSZ.out H2.out).mono ?_
    rintro e w3 ⟨dx, hx, P3, Ax, Adx, Dx, Hx, rfl, hs3, hMx, hDx, hOx, -, -, -, -, -, -, -, hnx, hH3⟩
    have hend : Hx.end_ = en := (hOx.hend hnx).trans HEN0.out
    have H3 := Lib.hid hH3
    have HMx := Lib.hid hMx
    have HDx := Lib.hid hDx
    have HOx := Lib.hid hOx
    have HEN := Lib.hid hend
    have HS3 := Lib.hid (HS2.out.trans hs3)
    have HC3 := Lib.hid (HC2.out.sub hs3)
    have HB3 := Lib.hid (HB2.out.sub hs3)
    clear hH3 hs3 hMx hDx hOx hend hnx
    go_wp2_with fail
    refine (hend_ok HMx.out HOx.out.W H3.out).mono ?_
    rintro e w4 ⟨rfl, hH4⟩
    rw [HEN.out]
    have H4 := Lib.hid hH4
    clear hH4
    go_wp2_with fail
    refine (long_any b (en - 1) (by omega) (by omega) _).mono ?_
    rintro e w' ⟨rfl, rfl⟩
    rw [HOM.out]
    go_wp2_with fail
    have hcase : (3 + om < 4) ∨ (¬ 3 + om < 4 ∧ en ≤ 3 + om) ∨ (¬ 3 + om < 4 ∧ ¬ en ≤ 3 + om) := by omega
    rcases hcase with q1 | ⟨q1, q2⟩ | ⟨q1, q2⟩
    · refine (hread_out HC3.out HMx.out HOx.out.W (3 + om) most (fun p hp => .inl (by have := (HOx.out.within hp).1; omega)) H4.out).mono ?_
      rintro e w5 ⟨rfl, hH5⟩
      have hE5 := HC3.out.errs _ hH5.agr
      have H5 := Lib.hid hH5
      have HE5 := Lib.hid hE5
      clear hH5 hE5
      go_wp2_with fail
      rw [← ev_some (errAt W) 14]
      refine (is_any HE5.out (101 + 14) (.inr (by omega)) 115).mono ?_
      rintro e w6 ⟨rfl, hb6⟩
      have HB6 := Lib.hid ((H5.out.below hb6 (Nat.le_refl _)).to_below HS3.out)
      clear hb6
      go_wp2_with fail
      go_ret
      exact ⟨rfl, HB6.out⟩
    · refine (hread_out HC3.out HMx.out HOx.out.W (3 + om) most (fun p hp => .inr (by have := (HOx.out.within hp).2; have h2 := HEN0.out; omega)) H4.out).mono ?_
      rintro e w5 ⟨rfl, hH5⟩
      have H5 := Lib.hid hH5
      clear hH5
      go_wp2_with fail
      refine (hend_ok HMx.out HOx.out.W H5.out).mono ?_
      rintro e w6 ⟨rfl, hH6⟩
      rw [HEN.out]
      have hE6 := HC3.out.errs _ hH6.agr
      have H6 := Lib.hid hH6
      have HE6 := Lib.hid hE6
      clear hH6 hE6
      go_wp2_with fail
      rw [← ev_some (errAt W) 14]
      refine (is_any HE6.out (101 + 14) (.inr (by omega)) 115).mono ?_
      rintro e w7 ⟨rfl, hb7⟩
      have HB7 := Lib.hid ((H6.out.below hb7 (Nat.le_refl _)).to_below HS3.out)
      clear hb7
      go_wp2_with fail
      go_ret
      exact ⟨rfl, HB7.out⟩
    · obtain ⟨L1, s, G, L2, hL, hg1, hg2⟩ := HOx.out.seg_of (3 + om) (by omega) (by have := HEN0.out; omega)
      have hgm : (s, G) ∈ Hx.L := by rw [hL]; simp
      have hchG := HOx.out.chain hL
      have hrG : ∀ y, y ∈ G.l → 1 ≤ y.r.length := fun y hy => ((HOx.out.sg _ hgm).1.ok y hy).n1
      obtain ⟨g1, x, g2, hgl, hx1, hx2⟩ := chain_find G.l G.base 0 (3 + om) hchG hrG hg1 (by rw [← end_eq]; exact hg2)
      have hch' := hchG
      rw [hgl] at hch' hrG
      obtain ⟨j, hj1, hj2, hj3, hj4⟩ := rd_shape (3 + om) most g1 g2 x _ _ hch' hrG hx1 hx2
      have hsrc := rd_src (3 + om) ((L1.map (·.2.l)).flatten) g1 g2 ((L2.map (·.2.l)).flatten) x L (by rw [← hgl]; exact (HOx.out.split hL).2.2.2.2) _ _ HOx.out.ch (fun y hy => (HOK.out y hy).1.n1) hx1 hx2 j
      have hrde := rd_end (3 + om) g1 g2 x _ _ hch' hrG hx1 hx2 j
      rw [← hgl, ← end_eq] at hrde
      have hgL : ∀ y, y ∈ g2 → y ∈ L := fun y hy => by
        rw [(HOx.out.split hL).2.2.2.2, hgl]
        simp [hy]
      have hbefore := fun p hp => HOx.out.before hL (p := p) hp
      have hwithin := HOx.out.within hgm
      refine (hread_seg HC3.out HMx.out HOx.out HDx.out hL (3 + om) most hg1 hg2 hm1 hm2 H4.out).mono ?_
      rintro e w5 ⟨v5, out5, P5, rfl, hs5, hm5, hb5, hH5⟩
      rw [hgl, hj2] at hm5
      have hROK : ∀ y, y ∈ fromL x (3 + om) :: g2.take j → BtOk y ∧ BtBy y := by
        rw [← hj2, ← hgl]
        exact rdGo_ok (3 + om) most G.l [] 0 (fun y hy => ⟨(HOx.out.sg _ hgm).1.ok y hy, (HOx.out.sg _ hgm).1.by_ y hy⟩) (by simp)
      have hRlen : (fromL x (3 + om) :: g2.take j).length ≤ 20 := by
        have h1 := congrArg List.length (HOx.out.split hL).2.2.2.2
        rw [hgl] at h1
        have h2 := HLL.out
        simp only [List.length_append, List.length_cons, List.length_take] at h1 ⊢
        omega
      have hRsz : ∀ M : List Bt, (∀ y, y ∈ M → BtOk y ∧ BtBy y) → sizes M ≤ M.length * 38816 := by
        intro M
        induction M with
        | nil => intro _; simp [sizes]
        | cons y M ih =>
          intro h
          have h1 := szB_le y (h y List.mem_cons_self).1
          have h2 := ih (fun z hz => h z (List.mem_cons_of_mem _ hz))
          simp only [sizes, List.map_cons, List.sum_cons, List.length_cons] at h2 ⊢
          omega
      obtain ⟨R, hR⟩ : ∃ R, fromL x (3 + om) :: g2.take j = R := ⟨_, rfl⟩
      have hRj : R.length = 1 + j := by rw [← hR, List.length_cons, List.length_take]; omega
      rw [hR] at hm5 hj3 hj4 hROK hRlen hsrc hrde
      have HSRC := Lib.hid hsrc
      have HRDE := Lib.hid hrde
      have HGL2 := Lib.hid hgL
      have HRJ := Lib.hid hRj
      clear hsrc hrde hgL hRj
      have HRSZ := Lib.hid (show sizes R ≤ 776320 from by have := hRsz R hROK; omega)
      have HROK := Lib.hid hROK
      clear hRsz hROK
      obtain ⟨rn, hrn⟩ : ∃ rn, R.length = rn := ⟨_, rfl⟩
      have hrn20 : rn ≤ 20 := by rw [← hrn]; exact hRlen
      clear hRlen
      have hrpos : 0 < rn := by rw [← hrn, ← hR]; simp
      have hol5 : out5.length = rn := by rw [← hrn, ← hm5, List.length_map]
      obtain ⟨sa, sc, rfl, hsc⟩ := hb5.shape
      rw [hol5] at hb5 hsc ⊢
      obtain ⟨g, off, cap, hvv, hcap, hbc⟩ := hb5.at_ (k := 0) (by rw [hol5]; exact hrpos)
      rw [hol5] at hvv hcap
      simp only [Value.slice.injEq] at hvv
      obtain ⟨rfl, -, rfl⟩ := hvv
      have hfb : (fromL x (3 + om)).b = 3 + om := by
        unfold fromL
        split
        · show x.b = _; omega
        · rfl
      obtain ⟨-, c0, -, -, -⟩ := hH5.use hbc
      have hx0 : (out5[0]'(by rw [hol5]; exact hrpos)).1.b = 3 + om := by
        have h1 : (out5.map (·.1))[0]? = some (fromL x (3 + om)) := by rw [hm5, ← hR]; rfl
        rw [List.getElem?_map, List.getElem?_eq_getElem (by rw [hol5]; exact hrpos)] at h1
        simp only [Option.map_some, Option.some.injEq] at h1
        rw [h1, hfb]
      rw [hx0, Nat.zero_mul, Nat.add_zero] at c0
      have r0 : ¬ (rn : Int) = 0 := by omega
      have H5 := Lib.hid hH5
      have HB5 := Lib.hid hb5
      have HM5 := Lib.hid hm5
      have HOL5 := Lib.hid hol5
      have HRN := Lib.hid hrn
      have HR := Lib.hid hR
      have HJ1 := Lib.hid hj1
      have HJ3 := Lib.hid hj3
      have HJ4 := Lib.hid hj4
      have HLH := Lib.hid hL
      have HGL := Lib.hid hgl
      have HCH5 := Lib.hid hch'
      have HX12 := Lib.hid (show x.b ≤ 3 + om ∧ 3 + om < x.b + x.r.length from ⟨hx1, hx2⟩)
      have HG12 := Lib.hid (show (G.base : Int) ≤ 3 + om ∧ 3 + om < G.end_ from ⟨hg1, hg2⟩)
      have HBEF := Lib.hid hbefore
      have HWI := Lib.hid hwithin
      have HFB := Lib.hid hfb
      have HS5 := Lib.hid hs5
      clear hL hgm hchG hrG hgl hx1 hx2 hch' hj1 hj2 hj3 hj4 hbefore hwithin hs5 hm5 hb5 hH5 hR hrn hol5 hbc hfb hx0 hg1 hg2
      go_wp2_with fail
      refine (hend_ok HMx.out HOx.out.W H5.out).mono ?_
      rintro e w6 ⟨rfl, hH6⟩
      rw [HEN.out]
      have hc6 : w6.cell? ⟨g, off, none⟩ = some (.int .i64 (3 + om)) := by
        obtain ⟨g', off', cap', hvv, -, hbc⟩ := HB5.out.at_ (k := 0) (by rw [HOL5.out]; exact hrpos)
        simp only [Value.slice.injEq] at hvv
        obtain ⟨e1, -, -⟩ := hvv
        cases e1
        obtain ⟨-, c0, -, -, -⟩ := hH6.use hbc
        have h1 : (out5.map (·.1))[0]? = some (fromL x (3 + om)) := by rw [HM5.out, ← HR.out]; rfl
        rw [List.getElem?_map, List.getElem?_eq_getElem (by rw [HOL5.out]; exact hrpos)] at h1
        simp only [Option.map_some, Option.some.injEq] at h1
        rw [h1, HFB.out, Nat.zero_mul, Nat.add_zero] at c0
        exact c0
      have H6 := Lib.hid hH6
      clear hH6 c0
      go_wp2_with fail
      refine (hsegs_ok HMx.out HOx.out.W H6.out).mono ?_
      rintro e w7 ⟨v7, At, rfl, ht7, hH7⟩
      obtain ⟨ta, tc, rfl⟩ := ht7.shape
      rw [List.length_map] at ht7 ⊢
      obtain ⟨sn, hsn⟩ : ∃ sn, Hx.L.length = sn := ⟨_, rfl⟩
      have hsnb := HOx.out.small.2
      rw [hsn] at ht7 hsnb ⊢
      have HT7 := Lib.hid ht7
      have HSN := Lib.hid hsn
      have H7 := Lib.hid (hH7.perm (permNA At Ax Adx))
      obtain ⟨q, hq⟩ : ∃ q, L1.length = q := ⟨_, rfl⟩
      have hqs : q < sn := by rw [← hq, ← hsn, HLH.out]; simp
      have HQ := Lib.hid hq
      obtain ⟨ge, hge⟩ : ∃ ge, G.end_ = ge := ⟨_, rfl⟩
      have HGE := Lib.hid hge
      clear ht7 hsn hH7 hq hge
      have htri : ∀ (k : Nat) (hk : k < Hx.L.length) (w' : World), Hp w' P5 (Ax ++ (Adx ++ At)) → ∃ g, ta = some ⟨g, 0, none⟩ ∧ sn ≤ tc ∧ w'.cell? ⟨g, k * 3, none⟩ = some (.int .i64 ((Hx.L[k]).2.base : Int)) ∧ w'.cell? ⟨g, k * 3 + 1, none⟩ = some (.int .i64 (Hx.L[k]).2.end_) := by
        intro k hk w' hh
        have hlm : (Hx.L.map fun p => triG p.2).length = sn := by rw [List.length_map]; exact HSN.out
        obtain ⟨g1, c1, hv1, hcc1, x0, x1⟩ := TriM.getr (l := Hx.L.map fun p => triG p.2) (by have := HT7.out; unfold TriM; rw [hlm]; unfold TriM at this; rwa [hlm] at this) (hh.perm (permNB At Ax Adx)) (j := k) (by rw [List.length_map]; exact hk)
        rw [hlm] at hv1 hcc1
        simp only [Value.slice.injEq] at hv1
        obtain ⟨rfl, -, rfl⟩ := hv1
        simp only [List.getElem_map] at x0 x1
        exact ⟨g1, rfl, hcc1, x0, x1⟩
      have HTRI := Lib.hid htri
      clear htri
      go_wp2_with fail
      go_loopg [16, 18] sn (fun m ve vi wr => ∃ (k : Nat) (z : Int), k + m = sn ∧ vi = .int .i64 k ∧ ve = .int .i64 z ∧ (q < k → z = ge) ∧ Hp wr P5 (Ax ++ (Adx ++ At)))
      case atStart => exact ⟨0, 0, by omega, rfl, rfl, fun h => absurd h (by omega), H7.out⟩
      case round =>
        obtain ⟨i, z, hi, rfl, rfl, hz, hHi⟩ := hrel
        have HZ := Lib.hid hz
        clear hz
        by_cases hin : i < sn
        · obtain ⟨gi, rfl⟩ : ∃ x, gk = x + 1 := ⟨gk - 1, by omega⟩
          have hil : i < Hx.L.length := by rw [HSN.out]; exact hin
          obtain ⟨g7, rfl, htc, y0, y1⟩ := HTRI.out i hil _ hHi
          obtain ⟨bi, hbi⟩ : ∃ b, ((Hx.L[i]).2.base : Int) = b := ⟨_, rfl⟩
          obtain ⟨ei, hei⟩ : ∃ e, (Hx.L[i]).2.end_ = e := ⟨_, rfl⟩
          rw [hbi] at y0
          rw [hei] at y1
          have i1 : (i : Int) < (sn : Int) := by omega
          have i2 : (0 : Int) ≤ (i : Int) := by omega
          have HI := Lib.hid hi
          have HHI := Lib.hid hHi
          have hcs : (i < q ∧ bi ≤ 3 + om ∧ ¬ 3 + om < ei) ∨ (i = q ∧ bi ≤ 3 + om ∧ 3 + om < ei ∧ ei = ge) ∨ (q < i ∧ ¬ bi ≤ 3 + om) := by
            rcases Nat.lt_trichotomy i q with h | h | h
            · left
              have hm : Hx.L[i] ∈ L1 := by
                have h1 : Hx.L[i] = L1[i]'(by have := HQ.out; omega) := by
                  have h2 := HLH.out
                  simp only [h2]
                  exact List.getElem_append_left (by have := HQ.out; omega)
                rw [h1]; exact List.getElem_mem _
              have := HBEF.out _ hm
              have h5 := HG12.out.1
              exact ⟨h, by omega, by omega⟩
            · right; left
              have h1 : Hx.L[i]? = some (s, G) := by rw [HLH.out, h, ← HQ.out]; simp
              rw [List.getElem?_eq_getElem hil] at h1
              have h2 := Option.some.inj h1
              rw [h2] at hbi hei
              have h5 := HG12.out
              have h6 := HGE.out
              exact ⟨h, by rw [← hbi]; exact h5.1, by rw [← hei]; exact h5.2, by rw [← hei]; exact h6⟩
            · right; right
              have := HOx.out.behind HLH.out hil (by rw [HQ.out]; exact h)
              have h5 := HG12.out.2
              exact ⟨h, by omega⟩
          clear hi hHi hbi hei
          rcases hcs with ⟨k1, k2, k3⟩ | ⟨k1, k2, k3, k4⟩ | ⟨k1, k2⟩
          · have HK := Lib.hid k1
            clear k1
            go_wp2_with fail
            go_roundg gi
            case measure => have := HI.out; omega
            case rel => exact ⟨i + 1, z, by have := HI.out; omega, by simp, rfl, fun h => absurd h (by have := HK.out; omega), HHI.out⟩
          · have HK := Lib.hid k1
            have HK4 := Lib.hid k4
            clear k1 k4
            go_wp2_with fail
            go_roundg gi
            case measure => have := HI.out; omega
            case rel => exact ⟨i + 1, ei, by have := HI.out; omega, by simp, rfl, fun _ => HK4.out, HHI.out⟩
          · have HK := Lib.hid k1
            clear k1
            go_wp2_with fail
            go_roundg gi
            case measure => have := HI.out; omega
            case rel => exact ⟨i + 1, z, by have := HI.out; omega, by simp, rfl, fun _ => HZ.out HK.out, HHI.out⟩
        · have hzz : z = ge := HZ.out (by omega)
          subst hzz
          have HHI := Lib.hid hHi
          clear hHi
          have hsz0 : ∀ k, sizes (R.take k) ≤ sizes R := fun k => by
            have h1 : R.take k ++ R.drop k = R := List.take_append_drop k R
            have h2 := congrArg sizes h1
            rw [sizes_app] at h2
            omega
          have HSZ0 := Lib.hid hsz0
          clear hsz0
          go_wp2_with fail
          go_loopg [19, 20, 21] rn (fun m vs va vi wr => ∃ k : Nat, k + m = rn ∧ vi = .int .i64 k ∧ vs = .int .i64 (sizes (R.take k)) ∧ va = .int .i64 (endOf (3 + om) (R.take k)) ∧ Hp wr P5 (Ax ++ (Adx ++ At)))
          case atStart => exact ⟨0, by omega, rfl, rfl, rfl, HHI.out⟩
          case round =>
            obtain ⟨k, hk, rfl, rfl, rfl, hHk⟩ := hrel
            obtain ⟨at_, hat⟩ : ∃ t, endOf (3 + om) (R.take k) = t := ⟨_, rfl⟩
            obtain ⟨sm, hsm⟩ : ∃ t, sizes (R.take k) = t := ⟨_, rfl⟩
            rw [hat, hsm]
            have HAT := Lib.hid hat
            have HSM := Lib.hid hsm
            have HK := Lib.hid hk
            have HHK := Lib.hid hHk
            clear hat hsm hHk
            by_cases hkr : k < rn
            · obtain ⟨gk', rfl⟩ : ∃ x, gk = x + 1 := ⟨gk - 1, by omega⟩
              have k1 : (k : Int) < (rn : Int) := by omega
              have k2 : (0 : Int) ≤ (k : Int) := by omega
              go_wp2_with fail
              go_loopg [22] L.length (fun m vk wr => ∃ k2 : Nat, k2 + m = L.length ∧ vk = .int .i64 k2 ∧ Hp wr P5 (Ax ++ (Adx ++ At)))
              case atStart => exact ⟨0, by omega, rfl, HHK.out⟩
              case round =>
                obtain ⟨k2, hk2, rfl, hH2⟩ := hrel
                have HH2 := Lib.hid hH2
                clear hH2
                by_cases hk2n : k2 < L.length
                · obtain ⟨gj, rfl⟩ : ∃ x, gk = x + 1 := ⟨gk - 1, by omega⟩
                  have hLn := HLL.out
                  have hko : k2 < out2.length := by rw [HO2.out]; omega
                  obtain ⟨g3, off3, cap3, hvv, hcap, hbc⟩ := HB3.out.at_ hko
                  rw [HO2.out] at hvv hcap
                  simp only [Value.slice.injEq] at hvv
                  obtain ⟨rfl, -, rfl⟩ := hvv
                  have hxk : (out2[k2]'hko).1 = L[k2] := by have := HM2.out; subst this; simp
                  obtain ⟨z, hzd⟩ : ∃ x, x = L[k2] := ⟨_, rfl⟩
                  obtain ⟨p2, hp2⟩ : ∃ p2, (out2[k2]'hko).2 = p2 := ⟨_, rfl⟩
                  have hbc5 := hbc.sub HS5.out
                  obtain ⟨-, c0, c1, c2, -⟩ := HH2.out.use hbc5
                  rw [hxk, ← hzd] at c0 c1
                  rw [hp2] at c2
                  have hbv : Pers P5 (fun w => BtV w (.agg #[.int .i64 z.b, .int .i64 z.e, p2]) z) := hbc5.imp (fun w1 h => by
                    obtain ⟨-, -, -, -, h5⟩ := h
                    rw [hzd, ← hxk, ← hp2]
                    exact ⟨_, rfl, h5⟩)
                  obtain ⟨hzo, hzb⟩ := HOK.out z (by rw [hzd]; exact List.getElem_mem hk2n)
                  have k3 : (k2 : Int) < (n : Int) := by omega
                  have k4 : (0 : Int) ≤ (k2 : Int) := by omega
                  have HBV := Lib.hid hbv
                  have HZO := Lib.hid hzo
                  have HZD := Lib.hid hzd
                  have HBC5 := Lib.hid hbc5
                  have HP2 := Lib.hid hp2
                  have HK2 := Lib.hid hk2
                  clear hbv hzo hzd hbc5 hbc hxk hp2 hk2 hzb
                  have hcs : (¬ z.b ≤ at_) ∨ (z.b ≤ at_ ∧ ¬ at_ < z.b + z.r.length) ∨ (z.b ≤ at_ ∧ at_ < z.b + z.r.length) := by omega
                  rcases hcs with q3 | ⟨q3, q4⟩ | ⟨q3, q4⟩
                  · go_wp2_with fail
                    go_roundg gj
                    case measure => have := HK2.out; omega
                    case rel => exact ⟨k2 + 1, by have := HK2.out; omega, by simp, HH2.out⟩
                  · go_wp2_with fail
                    refine (rnext_any z (by have := HZO.out.b0; omega) (by have := HZO.out.b1; omega) (by have := HZO.out.n64; omega) _ _ (HH2.out.use HBV.out)).mono ?_
                    rintro e w8 ⟨rfl, hb8⟩
                    have HH8 := Lib.hid (HH2.out.below hb8 (Nat.le_refl _))
                    clear hb8
                    go_wp2_with fail
                    go_roundg gj
                    case measure => have := HK2.out; omega
                    case rel => exact ⟨k2 + 1, by have := HK2.out; omega, by simp, HH8.out⟩
                  · have hkR : k < R.length := by rw [HRN.out]; exact hkr
                    obtain ⟨gr, offr, capr, hvv, hcapr, hbcr⟩ := HB5.out.at_ (k := k) (by rw [HOL5.out]; exact hkr)
                    rw [HOL5.out] at hvv hcapr
                    simp only [Value.slice.injEq, Option.some.injEq, Addr.mk.injEq] at hvv
                    obtain ⟨⟨rfl, rfl, -⟩, -, rfl⟩ := hvv
                    obtain ⟨y, hyd⟩ : ∃ y, y = R[k] := ⟨_, rfl⟩
                    have hyk : (out5[k]'(by rw [HOL5.out]; exact hkr)).1 = y := by
                      have h1 : (out5.map (·.1))[k]? = some R[k] := by rw [HM5.out]; exact List.getElem?_eq_getElem hkR
                      rw [List.getElem?_map, List.getElem?_eq_getElem (by rw [HOL5.out]; exact hkr)] at h1
                      rw [hyd]
                      simpa using h1
                    obtain ⟨ki, zz, e1, e2, e3, e4, e5, e6, -⟩ := HSRC.out k y (by rw [hyd]; exact List.getElem?_eq_getElem hkR)
                    rw [HAT.out] at e2
                    obtain ⟨hkiL, ezz⟩ := List.getElem?_eq_some_iff.1 e1
                    have hki : k2 = ki := (chain_one L _ _ HCH.out (fun y hy => (HOK.out y hy).1.n1) at_ hkiL hk2n (by rw [ezz, ← e2]; exact e3) (by rw [ezz, ← e2]; exact e4) (by rw [← HZD.out]; exact q3) (by rw [← HZD.out]; exact q4)).symm
                    subst hki
                    have hzz : z = zz := by rw [← ezz, HZD.out]
                    subst hzz
                    obtain ⟨p, hp⟩ : ∃ p : Nat, at_ - z.b = p := ⟨(at_ - z.b).toNat, by omega⟩
                    have hpt : (at_ - z.b).toNat = p := by omega
                    rw [e2, hpt] at e6
                    obtain ⟨yr, hyr⟩ : ∃ l, y.r = l := ⟨_, rfl⟩
                    obtain ⟨rl, hrl⟩ : ∃ n, yr.length = n := ⟨_, rfl⟩
                    obtain ⟨zl, hzl⟩ : ∃ n, z.r.length = n := ⟨_, rfl⟩
                    have hrz : rl = zl - p := by rw [← hrl, ← hyr, e6, List.length_drop, hzl]
                    obtain ⟨hyo, hyb⟩ := HROK.out y (by rw [hyd]; exact List.getElem_mem hkR)
                    have hrl1 : rl ≤ 1000000000 := by have := hyo.sm.1; rw [hyr, hrl] at this; exact this
                    have hrs := hyo.sm.2
                    rw [hyr] at hrs
                    obtain ⟨p5, hp5⟩ : ∃ p5, (out5[k]'(by rw [HOL5.out]; exact hkr)).2 = p5 := ⟨_, rfl⟩
                    obtain ⟨-, -, -, -, hr5⟩ := HH2.out.use hbcr
                    rw [hyk, hp5, hyr] at hr5
                    obtain ⟨ra, rc, hra⟩ := hr5.shape
                    rw [hrl] at hra
                    subst hra
                    obtain ⟨-, -, -, -, hr2⟩ := HH2.out.use HBC5.out
                    have hxk2 : (out2[k2]'hko).1 = z := by have h1 := HM2.out; rw [HZD.out]; subst h1; simp
                    rw [hxk2, HP2.out] at hr2
                    have hzr1 : 0 < zl := by omega
                    obtain ⟨g4, o4, c4, hv4, -, -⟩ := hr2.at_ (k := 0) (by rw [hzl]; exact hzr1)
                    have hc4 : zl ≤ c4 := by
                      rcases hr2 with ⟨h, h'⟩ | ⟨g', o', c', h, h2, -⟩ | ⟨_, _, _, h'⟩
                      · rw [h'] at hzl; simp at hzl; omega
                      · rw [hv4] at h; cases h; rw [← hzl]; exact h2
                      · rw [h'] at hzl; simp at hzl; omega
                    rw [hzl] at hv4
                    subst hv4
                    have HC5 : Hid (Pers P5 (fun w => w.cell? ⟨g, off + k * 3, none⟩ = some (.int .i64 at_) ∧ w.cell? ⟨g, off + k * 3 + 1, none⟩ = some (.int .i64 z.e) ∧ w.cell? ⟨g, off + k * 3 + 2, none⟩ = some (.slice ra rl rc) ∧ RcsV w (.slice ra rl rc) yr)) := hbcr.imp (fun w1 h => by
                      obtain ⟨-, h0, h1, h2, h3⟩ := h
                      rw [hyk] at h0 h1 h3
                      rw [hp5] at h2 h3
                      rw [hyr] at h3
                      rw [e2] at h0
                      rw [e5] at h1
                      exact ⟨h0, h1, h2, h3⟩)
                    have HC2 : Hid (Pers P5 (fun w => w.cell? ⟨g3, off3 + k2 * 3, none⟩ = some (.int .i64 z.b) ∧ w.cell? ⟨g3, off3 + k2 * 3 + 1, none⟩ = some (.int .i64 z.e) ∧ w.cell? ⟨g3, off3 + k2 * 3 + 2, none⟩ = some (.slice (some ⟨g4, o4, none⟩) zl c4) ∧ RcsV w (.slice (some ⟨g4, o4 + p * 3, none⟩) (zl - p) (c4 - p)) yr)) := HBC5.out.imp (fun w1 h => by
                      obtain ⟨-, h0, h1, h2, h3⟩ := h
                      rw [hxk2] at h0 h1 h3
                      rw [HP2.out] at h2 h3
                      have h4 := h3.dropW p
                      rw [hzl, ← e6, hyr] at h4
                      exact ⟨h0, h1, h2, h4⟩)
                    have hw8 : IntKind.i64.wrap (at_ - z.b) = (p : Int) := by
                      have hn64 := HZO.out.n64
                      rw [hp]; exact IntWalk.i64_in _ (by omega)
                    have i1 : (0 : Int) ≤ (p : Int) := by omega
                    have i2 : (p : Int) ≤ (zl : Int) := by omega
                    have i3 : (zl : Int) ≤ (c4 : Int) := by omega
                    have i4 : ¬ c4 = p := by omega
                    have HRL := Lib.hid hrl
                    have HRL1 := Lib.hid hrl1
                    have HRS := Lib.hid hrs
                    have HRZ := Lib.hid hrz
                    have kr1 : (k : Int) < (rn : Int) := by omega
                    have kr2 : (0 : Int) ≤ (k : Int) := by omega
                    clear hbcr hyd hyk e1 e2 e3 e4 e5 e6 hkiL ezz hp hpt hyr hrl hzl hrz hyo hyb hrl1 hrs hp5 hr5 hr2 hxk2 hc4 hcapr
                    go_wp2_with fail
                    refine (rnext_any z (by have := HZO.out.b0; omega) (by have := HZO.out.b1; omega) (by have := HZO.out.n64; omega) _ _ (HH2.out.use HBV.out)).mono ?_
                    rintro e w8 ⟨rfl, hb8⟩
                    have HH8 := Lib.hid (HH2.out.below hb8 (Nat.le_refl _))
                    clear hb8
                    obtain ⟨y0, y1, y2, s1⟩ := HH8.out.use HC5.out
                    obtain ⟨z0, z1, z2, s2⟩ := HH8.out.use HC2.out
                    have S1 : Hid (RcsV w8.drew (.slice ra rl rc) yr) := s1
                    have S2 : Hid (RcsV w8.drew (.slice (some ⟨g4, o4 + p * 3, none⟩) (zl - p) (c4 - p)) yr) := s2
                    have HRLL : Hid (yr.length ≤ 1000000000) := by show _ ≤ _; rw [HRL.out]; exact HRL1.out
                    clear s1 s2
                    go_wp2_with fail
                    go_region_held3 (fun w' => w'.cell? ⟨g, off + k * 3, none⟩ = some (.int .i64 at_) ∧ w'.cell? ⟨g, off + k * 3 + 1, none⟩ = some (.int .i64 z.e) ∧ w'.cell? ⟨g, off + k * 3 + 2, none⟩ = some (.slice ra rl rc) ∧
                        w'.cell? ⟨g3, off3 + k2 * 3, none⟩ = some (.int .i64 z.b) ∧ w'.cell? ⟨g3, off3 + k2 * 3 + 1, none⟩ = some (.int .i64 z.e) ∧ w'.cell? ⟨g3, off3 + k2 * 3 + 2, none⟩ = some (.slice (some ⟨g4, o4, none⟩) zl c4))
                      (first
                        | go_keep
                        | exact ⟨b0, b1, b2, b3, b4, b5⟩)
                      (first
                        | (go_at_call 31
                           with_reducible refine (samerecords_ok _ _ yr w8.drew S1.out S2.out HRLL.out HRS.out).mono ?_
                           rintro e w9 ⟨rfl, hb9⟩
                           obtain ⟨b0, b1, b2, -⟩ := (HH8.out.drew.below hb9 (Nat.le_refl _)).use HC5.out
                           obtain ⟨b3, b4, b5, -⟩ := (HH8.out.drew.below hb9 (Nat.le_refl _)).use HC2.out))
                    have HHq := Lib.hid (HH8.out.drew.below hb9 (Nat.le_refl _))
                    clear hb9
                    go_wp2_with fail
                    go_roundg gj
                    case measure => have := HK2.out; omega
                    case rel => exact ⟨k2 + 1, by have := HK2.out; omega, by simp, HHq.out⟩
                · have hLn := HLL.out
                  have k3 : ¬ (k2 : Int) < (n : Int) := by omega
                  clear hLn
                  have hkR : k < R.length := by rw [HRN.out]; exact hkr
                  obtain ⟨gr, offr, capr, hvv, hcapr, hbcr⟩ := HB5.out.at_ (k := k) (by rw [HOL5.out]; exact hkr)
                  rw [HOL5.out] at hvv hcapr
                  simp only [Value.slice.injEq, Option.some.injEq, Addr.mk.injEq] at hvv
                  obtain ⟨⟨rfl, rfl, -⟩, -, rfl⟩ := hvv
                  obtain ⟨y, hyd⟩ : ∃ y, y = R[k] := ⟨_, rfl⟩
                  have hyk : (out5[k]'(by rw [HOL5.out]; exact hkr)).1 = y := by
                    have h1 : (out5.map (·.1))[k]? = some R[k] := by rw [HM5.out]; exact List.getElem?_eq_getElem hkR
                    rw [List.getElem?_map, List.getElem?_eq_getElem (by rw [HOL5.out]; exact hkr)] at h1
                    rw [hyd]
                    simpa using h1
                  obtain ⟨p5, hp5⟩ : ∃ p5, (out5[k]'(by rw [HOL5.out]; exact hkr)).2 = p5 := ⟨_, rfl⟩
                  have hbvr : Pers P5 (fun w => BtV w (.agg #[.int .i64 y.b, .int .i64 y.e, p5]) y) := hbcr.imp (fun w1 h => by
                    obtain ⟨-, -, -, -, h5⟩ := h
                    rw [← hyk, ← hp5]
                    exact ⟨_, rfl, h5⟩)
                  obtain ⟨hyo, hyb⟩ := HROK.out y (by rw [hyd]; exact List.getElem_mem hkR)
                  have htk := take_next R k hkR
                  rw [← hyd] at htk
                  obtain ⟨sy, hsy⟩ : ∃ sy, szB y = sy := ⟨_, rfl⟩
                  have hb1 : sm + sy ≤ 776320 := by
                    have h1 := sizes_take R k hkR
                    rw [← hyd, hsy, HSM.out] at h1
                    have := HRSZ.out
                    omega
                  obtain ⟨-, c0, c1, c2, -⟩ := HH2.out.use hbcr
                  rw [hyk] at c0 c1
                  rw [hp5] at c2
                  have HBVR := Lib.hid hbvr
                  have HBCR := Lib.hid hbcr
                  have HYK := Lib.hid hyk
                  have HP5 := Lib.hid hp5
                  have HYO := Lib.hid hyo
                  have HYB := Lib.hid hyb
                  have HTK := Lib.hid htk
                  have HSY := Lib.hid hsy
                  have HKG := Lib.hid (show k + gk' + 1 = rn from by have := HK.out; omega)
                  clear hbvr hbcr hyk hp5 hyo hyb htk hsy hyd
                  go_wp2_with fail
                  refine (rnext_any y (by have := HYO.out.b0; omega) (by have := HYO.out.b1; omega) (by have := HYO.out.n64; omega) _ _ (HH2.out.use HBVR.out)).mono ?_
                  rintro e w9 ⟨rfl, hb9⟩
                  have hH9 := HH2.out.below hb9 (Nat.le_refl _)
                  obtain ⟨-, c0, c1, c2, -⟩ := hH9.use HBCR.out
                  rw [HYK.out] at c0 c1
                  rw [HP5.out] at c2
                  have H9 := Lib.hid hH9
                  clear hb9 hH9
                  go_wp2_with fail
                  refine (rsize_any y HYO.out HYB.out _ _ (H9.out.use HBVR.out)).mono ?_
                  rintro e w10 ⟨rfl, hb10⟩
                  rw [HSY.out]
                  have H10 := Lib.hid (H9.out.below hb10 (Nat.le_refl _))
                  clear hb10
                  go_wp2_with fail
                  go_roundg gk'
                  case measure => have := HKG.out; omega
                  case rel => exact ⟨k + 1, by have := HKG.out; omega, by simp, by rw [HTK.out, sizes_app, HSM.out, show sizes [y] = sy from by simp [sizes, HSY.out]]; simp, by rw [HTK.out, endOf_snoc], H10.out⟩
            · have hkn : k = rn := by have := HK.out; omega
              have htake : R.take k = R := by rw [hkn, ← HRN.out]; exact List.take_length
              have hate : endOf (3 + om) R = at_ := by have h := HAT.out; rwa [htake] at h
              have hsme : sizes R = sm := by have h := HSM.out; rwa [htake] at h
              obtain ⟨hz1, hz2⟩ := HRDE.out
              rw [hate, HGE.out] at hz1 hz2
              have hj3 := HJ3.out
              have hj4 := HJ4.out
              rw [hsme] at hj3 hj4
              have hrj := HRJ.out
              rw [HRN.out] at hrj
              have hsm1 : sm ≤ 776320 := by rw [← hsme]; exact HRSZ.out
              have hc1 : (¬ 1 < rn) ∨ (1 < rn ∧ ¬ most < (sm : Int)) := by
                by_cases h : 1 < rn
                · exact .inr ⟨h, by have := hj3 (by omega); omega⟩
                · exact .inl h
              have b1 : ¬ z < at_ := by omega
              have b2 : ¬ (k : Int) < (rn : Int) := by omega
              have hc2 : at_ = z ∨ (¬ at_ = z ∧ ∃ y2, y2 ∈ g2 ∧ y2.b = at_ ∧ most < (sm : Int) + szB y2) := by
                by_cases h : at_ = z
                · exact .inl h
                · obtain ⟨h1, h2⟩ := hz2 h
                  exact .inr ⟨h, _, List.getElem_mem h1, h2, hj4 h1⟩
              have HC1 := Lib.hid hc1
              have HC2 := Lib.hid hc2
              clear hkn htake hate hsme hz1 hz2 hj3 hj4 hrj hkr hc1 hc2
              rcases HC2.out with t0 | ⟨t0, y2, hy2, hy2b, hy2s⟩
              · rcases HC1.out with t1 | ⟨t1, t2⟩
                · go_wp2_with fail
                  go_ret
                  exact ⟨rfl, (HHK.out.to_below (HS3.out.trans HS5.out))⟩
                · go_wp2_with fail
                  go_ret
                  exact ⟨rfl, (HHK.out.to_below (HS3.out.trans HS5.out))⟩
              · have HY2 := Lib.hid hy2
                have HY2B := Lib.hid hy2b
                have HY2S := Lib.hid hy2s
                clear hy2 hy2b hy2s
                rcases HC1.out with t1 | ⟨t1, t2⟩
                case' inl => go_wp2_with fail
                case' inr => go_wp2_with fail
                all_goals (
                  have hro := hread_one (HC3.out.sub HS5.out) HMx.out HOx.out (HDx.out.sub HS5.out) y2 (HGL2.out y2 HY2.out) HHK.out
                  rw [HY2B.out] at hro
                  refine hro.mono ?_
                  rintro e w9 ⟨v9, p9, P9, rfl, hs9, hp9, hb9, hH9⟩
                  obtain ⟨g9, off9, cap9, hvv, hcap9, hbc9⟩ := hb9.at_ (k := 0) (by simp)
                  simp only [List.length_cons, List.length_nil, Nat.zero_add] at hvv hcap9
                  subst hvv
                  simp only [List.getElem_cons_zero, Nat.zero_mul, Nat.add_zero] at hbc9
                  obtain ⟨q9, hq9⟩ : ∃ q, p9.2 = q := ⟨_, rfl⟩
                  have hbv9 : Pers P9 (fun w => BtV w (.agg #[.int .i64 y2.b, .int .i64 y2.e, q9]) y2) := hbc9.imp (fun w1 h => by
                    obtain ⟨-, -, -, -, h5⟩ := h
                    rw [hp9, hq9] at h5
                    exact ⟨_, rfl, h5⟩)
                  obtain ⟨hyo, hyb⟩ := HOK.out y2 (HGL2.out y2 HY2.out)
                  obtain ⟨sy, hsy⟩ : ∃ sy, szB y2 = sy := ⟨_, rfl⟩
                  obtain ⟨-, c0, c1, c2, -⟩ := hH9.use hbc9
                  rw [hp9] at c0 c1
                  rw [hq9] at c2
                  have hy2s := HY2S.out
                  rw [hsy] at hy2s
                  have HBV9 := Lib.hid hbv9
                  have HYO := Lib.hid hyo
                  have HYB := Lib.hid hyb
                  have HSY := Lib.hid hsy
                  have H9 := Lib.hid hH9
                  have HS9 := Lib.hid ((HS3.out.trans HS5.out).trans hs9)
                  have hcs : most < (sm : Int) ∨ (¬ most < (sm : Int) ∧ most - (sm : Int) < (sy : Int)) := by omega
                  clear hs9 hp9 hb9 hH9 hbc9 hbv9 hq9 hyo hyb hsy hro hy2s hcap9
                  rcases hcs with t3 | ⟨t3, t4⟩
                  · go_wp2_with fail
                    go_ret
                    exact ⟨rfl, H9.out.to_below HS9.out⟩
                  · go_wp2_with fail
                    refine (rsize_any y2 HYO.out HYB.out _ _ (H9.out.use HBV9.out)).mono ?_
                    rintro e w10 ⟨rfl, hb10⟩
                    rw [HSY.out]
                    have H10 := Lib.hid (H9.out.below hb10 (Nat.le_refl _))
                    clear hb10
                    go_wp2_with fail
                    go_ret
                    exact ⟨rfl, H10.out.to_below HS9.out⟩)
end Go.Proofs.YthocnhdefnbchaaGreatDoor.Sg

/-! Cy -/
namespace Go.Proofs.YthocnhdefnbchaaGreatDoor.Sg
open Go.RowKit Er

def l12 : List Nat := [0, 1, 2, 3, 4, 5, 6, 7, 8, 9, 12, 14]
theorem l12_all : ∀ i, i < 10 ∨ i = 14 → i ∈ l12 := by
  intro i hi
  rcases hi with hi | rfl
  · have : ∀ j : Fin 10, j.val ∈ l12 := by decide
    exact this ⟨i, hi⟩
  · decide
theorem l19_all2 : ∀ i, i < 10 ∨ i = 14 → i ∈ List.range 19 := by intro i hi; rw [List.mem_range]; omega

theorem tab_of2 {rest : List (String × DataW Unit)} {W : World} (h : laidMet Tryz.prog (("math/bits.deBruijn32tab", Rows.laid_math_bits_deBruijn32tab) :: ("math/bits.deBruijn64tab", Rows.laid_math_bits_deBruijn64tab) :: ("internal/strconv.uint64pow10", Rows.laid_internal_strconv_uint64pow10) :: rest) W) :
    Lib.TabIs Tryz.prog W "internal/strconv.uint64pow10" .u64 Lib.pow10Tab ∧ laidMet Tryz.prog rest W := by
  have h2 := laidMet.tail (laidMet.tail h)
  refine ⟨?_, laidMet.tail h2⟩
  exact Lib.tabIs_of_head (zs := Lib.pow10Tab) (k := .u64) (g := 19) (t := 284) (e := 155) (n := 20) (by kernel_rfl) (by kernel_rfl) (by kernel_rfl) (by kernel_rfl) (by kernel_rfl) (by kernel_rfl) h2
theorem hlaid12 {W : World} (h : laidMet Tryz.prog Rows.hotRecoversRow.laid W) (hsz : gmax ≤ W.heap.size) : Lib.TabIs Tryz.prog W "internal/strconv.uint64pow10" .u64 Lib.pow10Tab ∧ Errs l12 W (errAt W) W.heap.size := by
  obtain ⟨h1, h2⟩ := tab_of2 h
  exact ⟨h1, errs_of_laid l12 (by decide) h2 hsz⟩
theorem hlaid19 {W : World} (h : laidMet Tryz.prog Rows.hotReadsRow.laid W) (hsz : gmax ≤ W.heap.size) : Lib.TabIs Tryz.prog W "internal/strconv.uint64pow10" .u64 Lib.pow10Tab ∧ Errs (List.range 19) W (errAt W) W.heap.size := by
  obtain ⟨h1, h2⟩ := tab_of2 h
  exact ⟨h1, errs_of_laid (List.range 19) (by decide) h2 hsz⟩

end Go.Proofs.YthocnhdefnbchaaGreatDoor.Sg

/-! HotReadsRow -/
namespace Go.Proofs.YthocnhdefnbchaaGreatDoor.hotReads
open Go.ChangeShapes Go.WideShapes Go.ChangeAt Go.RowKit
open Go.Proofs.YthocnhdefnbchaaGreatDoor.Sg
set_option linter.unusedVariables false
set_option maxRecDepth 100000 in
theorem contract (H : Type) (enc : TypeId × Value → H) (W : World) (base : Nat) (args : Array Value) (ds gs : List (DataW H)) (before : List MemPlace)
    (hval0 : ∀ (j : Nat) t v, Tryz.f4.params[j]? = some t → args[j]? = some v → Value.okWide Tryz.prog W .any base t v)
    (hW : DataW.Whole enc Tryz.prog Tryz.f4.params.toList Rows.hotReadsSpec.vars false W args.toList ds gs before) (hL : laidMetH Tryz.prog Rows.hotReadsRow.laid W) (hsh : W.ShapedOpen Tryz.prog) :
    Calls Tryz.prog 4 args W fun e W' => ∃ v, e = .returned v ∧ Rows.hotReadsSpec.post enc Tryz.prog Tryz.f4 false true false false W args v W' := by
  have hval : ∀ (j : Nat) t v, Tryz.f4.params[j]? = some t → args[j]? = some v → Value.okWide Tryz.prog W .any base t v := hval0
  have hW' := hW
  obtain ⟨p, q, hA0, hV, rfl, hfz, hnd⟩ := hW
  have hA : DataW.TrodAll enc Tryz.prog W 0 (fun _ => true) true Tryz.f4.params.toList args.toList ds p := hA0
  rw [Tryz.params4] at hA hval
  obtain ⟨v0, vs0, d0, ds0, p0, q0, hargs, rfl, rfl, h0, r0⟩ := trodAll_cons hA
  obtain ⟨v1, vs1, d1, ds1, p1, q1, rfl, rfl, rfl, h1, r1⟩ := trodAll_cons r0
  obtain ⟨v2, vs2, d2, ds2, p2, q2, rfl, rfl, rfl, h2, r2⟩ := trodAll_cons r1
  obtain ⟨v3, vs3, d3, ds3, p3, q3, rfl, rfl, rfl, h3, r3⟩ := trodAll_cons r2
  obtain ⟨rfl, rfl, rfl⟩ := trodAll_nil r3
  obtain rfl : args = #[v0, v1, v2, v3] := by cases args; simp_all
  obtain ⟨rfl, rfl⟩ := trodVars_none hV
  obtain ⟨a0, len0, cap0, rfl⟩ := okWide_slice Tryz.underlying50 (hval 0 50 v0 rfl rfl)
  have k0 := h0
  have lt0 : ∀ x ∈ p0, x.block < W.heap.size := by obtain ⟨m, hm⟩ := k0; exact DataW.trod_lt m _ _ _ hm
  obtain ⟨z0, w0⟩ : ∃ zs, IsRow W a0 len0 cap0 zs := by
    obtain ⟨fuel, hf⟩ := h0
    rcases open_ints Tryz.underlying50 Tryz.underlying3 (by kernel_rfl) hf with ⟨hcs, _⟩ | ⟨x, l, c, zs, hcs, _, hl, hm, hz, _, hcell, hwz⟩
    · simp [Value.cells] at hcs
      obtain ⟨rfl, rfl, rfl⟩ := hcs
      exact ⟨[], .inl ⟨rfl, rfl, rfl, rfl⟩⟩
    · simp [Value.cells] at hcs
      obtain ⟨rfl, rfl, rfl⟩ := hcs
      exact ⟨zs, .inr ⟨_, rfl, hl, hm, by simpa using hz, hcell, hwz⟩⟩
  obtain ⟨a1, rfl, rfl, rfl, w1⟩ := open_int Tryz.underlying3 (hval 1 3 v1 rfl rfl) h1
  obtain ⟨a2, rfl, rfl, rfl, w2⟩ := open_int Tryz.underlying2 (hval 2 2 v2 rfl rfl) h2
  obtain ⟨a3, rfl, rfl, rfl, w3⟩ := open_int Tryz.underlying3 (hval 3 3 v3 rfl rfl) h3
  have hL0 := hL
  rw [MakeChecks.laidMetH_plain _ _ _ (by kernel_rfl)] at hL0
  obtain ⟨hT, hE⟩ := hlaid19 (W := W) hL0 (Er.gmax_le hsh)
  clear hA0 hval0
  refine (hotreads_all a0 len0 cap0 z0 a1 a2 a3 W w0 (bounds_i64 w3).1 (bounds_i64 w3).2 l19_all2 hE hT).mono fun e W' ⟨he, bel⟩ => ?_
  subst he
  exact ⟨_, rfl, _, _, _, [], _, [], hW', trodAll_mk1 (shut_bool Tryz.underlying4 _), (trodAll_cons_mk (Below.trod laidOut (by kernel_rfl) (of_decide_eq_true (by kernel_rfl)) k0 bel lt0) (trodAll_cons_mk (shut_int Tryz.underlying3 w1) (trodAll_cons_mk (shut_int Tryz.underlying2 w2) (trodAll_cons_mk (shut_int Tryz.underlying3 w3) trodAll_mk0)))), rfl, bel.frame _, fun h => by cases h⟩

set_option maxRecDepth 100000 in
theorem lifted (os : Os) (started : os.Started) (H : Type) (enc : TypeId × Value → H) (F : Stop.Interp) :
    ReturnsInHanded {} Tryz.checked os 4 .any ((OpenSpec.ofChange Rows.hotReadsSpec).preRow enc Tryz.prog Tryz.f4 Rows.hotReadsRow.domain false Rows.hotReadsRow.laid) (((OpenSpec.ofChange Rows.hotReadsSpec).at F).post enc Tryz.prog Tryz.f4 false true false false) := by
  obtain ⟨places, hx⟩ := reads os enc
  refine returnsInHanded_of_row (C := Tryz.checked) (s := OpenSpec.ofChange Rows.hotReadsSpec) own started (by kernel_rfl) Tryz.func4
    (witness_row_atRef (enc := enc) (C := Tryz.checked) false (World.doorLaid Tryz.prog 400 os) #[.slice none 0 0, .int .i64 0, .int .i64 0, .int .i64 0] rfl (by kernel_rfl) (by kernel_rfl) (by kernel_rfl)
      (OpenSpec.preRow_of_cond 8 hx (by kernel_rfl) (fun k hk => by cases hk) (by kernel_rfl) (door_met os _))) ?_
  intro W base args ds gs before hval hW _ _ _ hL hsh _
  exact contract H enc W base args ds gs before hval hW hL hsh

theorem said : Rows.HotReadsSaid :=
  OpenClaim.holds_of_cond 4 Tryz.f4 rfl rfl rfl rfl rfl rfl rfl ⟨rfl, rfl, rfl, rfl, rfl⟩ rfl rfl rfl rfl rfl (by kernel_rfl) Tryz.func4 closed
    (of_decide_eq_true (by kernel_rfl)) (by unfold Func.isWrapper; rw [if_neg (of_decide_eq_false (by kernel_rfl))]; exact ⟨rfl, rfl⟩)
    (fun os started H enc _ F => by rw [OpenClaim.pre_eq_preRow]; exact lifted os started H enc F)

theorem card : Rows.HotReadsCardSaid :=
  Claim7.holds_tied_plain_at .later [] _ _ _ _ said (fun _ h => by cases h) (by kernel_rfl) (fun _ h => by cases h) hotReads_row_tie rfl ⟨rfl, rfl⟩ (by kernel_rfl) rfl plain (by kernel_rfl)

#print axioms card
end Go.Proofs.YthocnhdefnbchaaGreatDoor.hotReads
