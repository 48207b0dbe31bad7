/- cordwoodlaw7.SegLimits answers true for every input. The statement SegLimits of chapter 7 holds for every input: the call returns true and leaves its arguments as they were. -/
import Derived.Test.YtlkkagjpapjehaaGreatDoorMf
import Derived.Test.YtlkkagjpapjehaaGreatDoorCards
import Derived.Test.YtlkkagjpapjehaaGreatDoorTie
import Derived.ProofKit
import Derived.OpenShut
import Derived.LaidMore
import Derived.Deep.DeepWitnessRowRef

/-! Ls -/
namespace Go.Proofs.YtlkkagjpapjehaaGreatDoor.Sg
open Go.RowKit Er Go.Maps

/-- Row's batches of at most twenty numbers. -/
theorem row20 (every : Nat) (xs : List Int) (base : Nat) (hb : base ≤ 1073741824) (hx : xs.length ≤ 20) : Chain base 0 (rowGo every xs 0 base) ∧ (∀ x, x ∈ rowGo every xs 0 base → BtOk x ∧ BtBy x) ∧ sizes (rowGo every xs 0 base) ≤ 1048576 ∧
    (base : Int) + (xs.length : Int) ≤ endOf base (rowGo every xs 0 base) ∧ endOf base (rowGo every xs 0 base) ≤ base + 5 * xs.length := by
  have hok := row_ok every xs 0 base (by omega) (by omega) (by omega)
  refine ⟨row_chain every xs 0 base 0 (by have := (rEp_mono every 0).2; omega), hok, ?_, ?_⟩
  · have h : ∀ L : List Bt, (∀ x, x ∈ L → BtOk x ∧ BtBy x) → sizes L ≤ L.length * 38816 := by
      intro L
      induction L with
      | nil => intro _; simp [sizes]
      | cons x L ih =>
        intro h
        have h1 := szB_le x (h x List.mem_cons_self).1
        have h2 := ih (fun y hy => h y (List.mem_cons_of_mem _ hy))
        simp only [sizes, List.map_cons, List.sum_cons, List.length_cons] at h2 ⊢
        omega
    have h1 := h _ hok
    rw [row_len] at h1
    omega
  · have h : ∀ (l : List Int) (i : Nat) (a : Int), a + (l.length : Int) ≤ endOf a (rowGo every l i a) ∧ endOf a (rowGo every l i a) ≤ a + 5 * l.length := by
      intro l
      induction l with
      | nil => intro i a; simp [rowGo, endOf]
      | cons s l ih =>
        intro i a
        obtain ⟨hp1, hp5⟩ := rN_pos s
        have := ih (i + 1) (a + (rN s : Int))
        show a + ((l.length + 1 : Nat) : Int) ≤ endOf a (rBt every s i a :: rowGo every l (i + 1) (a + (rN s : Int))) ∧ endOf a (rBt every s i a :: rowGo every l (i + 1) (a + (rN s : Int))) ≤ a + 5 * ((l.length + 1 : Nat) : Int)
        rw [endOf_cons, rBt_len, show (rBt every s i a).b = a from rfl]
        omega
    exact h xs 0 base

/-- What holds at the head of SegLimits's loop. -/
def LimRel (P : Pm) (M : Mm) (R : List Bt) (m : Nat) (vs vi : Value) (w : World) : Prop :=
  ∃ k : Nat, k + m = R.length ∧ vs = .int .i64 (sizes (R.take k)) ∧ vi = .int .i64 k ∧ Hp w P M

set_option maxRecDepth 100000 in
set_option maxHeartbeats 2000000 in
theorem limits_all (a0 : Option Addr) (len0 cap0 : Nat) (z0 : List Int) (o a b : Int) (W : World) (h : IsRow W a0 len0 cap0 z0) {S : List Nat} (hS : ∀ i, i < 10 ∨ i = 14 → i ∈ S) (hE : Errs S W (errAt W) W.heap.size)
    (hT : Lib.TabIs Tryz.prog W "internal/strconv.uint64pow10" .u64 Lib.pow10Tab) :
    Calls Tryz.prog 3 #[.slice a0 len0 cap0, .int .i64 o, .int .i64 a, .int .i64 b] W fun e W' => e = .returned (.bool true) ∧ Below W.heap.size W W' := by
  have C := ctx_start hS hE hT
  obtain ⟨xs, rfl, hC⟩ := isRow_C h
  have hCp := ints_pers hC
  have H0 : Hid (Hp W (Pm.start W) []) := Hp.start W
  clear h hC hE hT
  have HCP := Lib.hid hCp
  clear hCp
  by_cases hlen : 20 < xs.length ∨ xs.length = 0
  · rcases hlen with hlen | hlen
    · go_enter Tryz.func3, Tryz.ntmps3
      go_wp2_with fail
      refine (first_ok C H0.out).mono ?_
      rintro e w1 ⟨rfl, P1, hs1, hH1⟩
      have HB := Lib.hid (hH1.to_below hs1)
      clear hH1 hs1
      go_wp2_with fail
      go_ret
      exact ⟨rfl, HB.out⟩
    · rw [hlen]
      clear HCP
      go_enter Tryz.func3, Tryz.ntmps3
      go_wp2_with fail
      refine (first_ok C H0.out).mono ?_
      rintro e w1 ⟨rfl, P1, hs1, hH1⟩
      have HB := Lib.hid (hH1.to_below hs1)
      clear hH1 hs1
      go_wp2_with fail
      go_ret
      exact ⟨rfl, HB.out⟩
  · have hl1 : xs.length ≤ 20 := by omega
    have hl0 : 0 < xs.length := by omega
    have hl2 : ¬ xs.length = 0 := by omega
    have hl3 : ¬ ((xs.length : Int) = 0) := by omega
    have hl4 : ((xs.length : Int) == 0) = false := beq_eq_false_iff_ne.2 (by omega)
    obtain ⟨hch, hok, hsz, he1, he2⟩ := row20 3 xs 0 (by omega) hl1
    obtain ⟨L, hLd⟩ : ∃ L, L = rowGo 3 xs 0 ((0 : Nat) : Int) := ⟨_, rfl⟩
    rw [← hLd] at hch hok hsz he1 he2
    have HLD := Lib.hid hLd
    have HCH := Lib.hid hch
    have HOK := Lib.hid hok
    have HSZ := Lib.hid hsz
    obtain ⟨en, hen⟩ : ∃ en, endOf ((0 : Nat) : Int) L = en := ⟨_, rfl⟩
    rw [hen] at he1 he2
    have HEN := Lib.hid hen
    clear hlen hLd hch hok hsz hen
    go_enter Tryz.func3, Tryz.ntmps3
    go_wp2_with fail
    refine (first_ok C H0.out).mono ?_
    rintro e w1 ⟨rfl, P1, hs1, hH1⟩
    have H1 := Lib.hid hH1
    have HS1 := Lib.hid hs1
    clear hH1 hs1
    go_wp2_with fail
    refine (row_p H1.out a0 xs cap0 (HCP.out.sub HS1.out) 3 (by decide) (by omega) 0 (by decide) (by decide)).mono ?_
    rintro e w2 ⟨v2, P2, out2, rfl, hs2, hm2, hb2, hH2⟩
    have hm2' : out2.map (·.1) = L := hm2.trans HLD.out.symm
    have H2 := Lib.hid hH2
    have HB2 := Lib.hid hb2
    have HM2 := Lib.hid hm2'
    have HS2 := Lib.hid (HS1.out.trans hs2)
    clear hH2 hb2 hm2 hm2' hs2
    go_wp2_with fail
    refine (made_ok (C.sub HS2.out) 0 (by decide) 80 (by decide) (by decide) v2 out2 HB2.out L HM2.out HCH.out HOK.out HSZ.out H2.out).mono ?_
    rintro e w3 ⟨d, s, P3, A, Ad, D, rfl, hs3, hG, hD, hO, -, -, -, -, -, hH3⟩
    have HS3 := Lib.hid (HS2.out.trans hs3)
    have H3 := Lib.hid hH3
    have HG := Lib.hid hG
    have HO := Lib.hid hO
    have HD := Lib.hid hD
    clear hs3 hH3 hG hO hD
    go_wp2_with fail
    refine (end_any HG.out HO.out.W H3.out).mono ?_
    rintro e w4 ⟨rfl, hH4⟩
    have hen2 : Sg.end_ ⟨d, segNm 0, 0, 80, L, 0⟩ = en := HEN.out
    rw [hen2]
    have HEN2 := Lib.hid hen2
    have H4 := Lib.hid hH4
    clear hH4 hen2
    go_wp2_with fail
    refine (long_any o en (by omega) (by omega) _).mono ?_
    rintro e w5 ⟨rfl, rfl⟩
    have ho0 := Int.emod_nonneg o (show en ≠ 0 by omega)
    have ho1 := Int.emod_lt_of_pos o (show 0 < en by omega)
    obtain ⟨om, hom⟩ : ∃ om, o % en = om := ⟨_, rfl⟩
    rw [hom] at ho0 ho1 ⊢
    clear hom
    go_wp2_with fail
    refine (number_any a 600 (by omega) (by omega) _).mono ?_
    rintro e w6 ⟨rfl, rfl⟩
    have ha0 := Int.emod_nonneg a (show ((600 : Nat) : Int) ≠ 0 by omega)
    have ha1 := Int.emod_lt_of_pos a (show 0 < ((600 : Nat) : Int) by omega)
    obtain ⟨am, ham⟩ : ∃ am, a % ((600 : Nat) : Int) = am := ⟨_, rfl⟩
    rw [ham] at ha0 ha1 ⊢
    clear ham
    go_wp2_with fail
    refine (number_any b 600 (by omega) (by omega) _).mono ?_
    rintro e w7 ⟨rfl, rfl⟩
    have hb0 := Int.emod_nonneg b (show ((600 : Nat) : Int) ≠ 0 by omega)
    have hb1 := Int.emod_lt_of_pos b (show 0 < ((600 : Nat) : Int) by omega)
    obtain ⟨bm, hbm⟩ : ∃ bm, b % ((600 : Nat) : Int) = bm := ⟨_, rfl⟩
    rw [hbm] at hb0 hb1 ⊢
    have H7 := H4
    clear hbm
    go_wp2_with fail
    refine (sread_on (C.sub HS3.out) HG.out HO.out HD.out om am (by show (0 : Int) ≤ om; omega) (by rw [HEN2.out]; omega) (by omega) (by omega) H7.out).mono ?_
    rintro e w8 ⟨v8, out8, P8, rfl, hs8, hm8, hb8, hH8⟩
    have HS8 := Lib.hid (HS3.out.trans hs8)
    have HSd := Lib.hid hs8
    have H8 := Lib.hid hH8
    have HM8 := Lib.hid hm8
    have HB8 := Lib.hid hb8
    clear hs8 hH8 hm8 hb8
    go_wp2_with fail
    refine (sread_on (C.sub HS8.out) HG.out HO.out (HD.out.sub HSd.out) om (am + bm) (by show (0 : Int) ≤ om; omega) (by rw [HEN2.out]; omega) (by omega) (by omega) H8.out).mono ?_
    rintro e w9 ⟨v9, out9, P9, rfl, hs9, hm9, hb9, hH9⟩
    obtain ⟨R, hR⟩ : ∃ R, rdGo om am L [] 0 = R := ⟨_, rfl⟩
    obtain ⟨T, hT⟩ : ∃ T, rdGo om (am + bm) L [] 0 = T := ⟨_, rfl⟩
    have hm8 : out8.map (·.1) = R := HM8.out.trans hR
    have hm9' : out9.map (·.1) = T := hm9.trans hT
    have hpre : R <+: T := by rw [← hR, ← hT]; exact rdGo_mono om am (am + bm) (by omega) L [] 0
    obtain ⟨y, rr, hy, hyb⟩ := rdGo_head om am L ((0 : Nat) : Int) 0 HCH.out (by omega) (by have := HEN.out; omega)
    rw [hR] at hy
    have hsum := rdGo_sum om am L [] 0 rfl (.inl rfl)
    rw [hR] at hsum
    have hRok : ∀ x, x ∈ R → BtOk x ∧ BtBy x := by rw [← hR]; exact rdGo_ok om am L [] 0 HOK.out (by simp)
    have hRlen : R.length ≤ 20 := by
      have h1 := rdGo_len om am L [] 0
      have h2 : L.length = xs.length := by rw [HLD.out, row_len]
      rw [hR] at h1
      simp at h1; omega
    obtain ⟨n, hn⟩ : ∃ n, n = R.length := ⟨_, rfl⟩
    obtain ⟨m, hm⟩ : ∃ m, m = T.length := ⟨_, rfl⟩
    have hn1 : 0 < n := by rw [hn, hy]; simp
    have hnm : n ≤ m := by rw [hn, hm]; exact hpre.length_le
    have ho8 : out8.length = n := by rw [hn, ← hm8, List.length_map]
    have ho9 : out9.length = m := by rw [hm, ← hm9', List.length_map]
    have hb8 := HB8.out.sub hs9
    obtain ⟨g8, f8, c8, e8, hc8, hbc8⟩ := hb8.at_ (k := 0) (by omega)
    obtain ⟨g9, f9, c9, e9, hc9, -⟩ := hb9.at_ (k := 0) (by omega)
    rw [ho8] at e8 hc8
    rw [ho9] at e9 hc9
    subst e8 e9
    have hx0 : (out8[0]'(by omega)).1 = y := by
      have : (out8.map (·.1))[0]? = some y := by rw [hm8, hy]; rfl
      rw [List.getElem?_map, List.getElem?_eq_getElem (by omega)] at this
      simpa using this
    obtain ⟨-, z0, -, -, -⟩ := hH9.use hbc8
    rw [Nat.zero_mul, Nat.add_zero, hx0, hyb] at z0
    have hr8 := hb8.read
    rw [hm8] at hr8
    have hr9 := (hb9.take n (by omega)).read
    have htk : (out9.take n).map (·.1) = R := by
      rw [List.map_take, hm9', hn]
      exact (List.prefix_iff_eq_take.1 hpre).symm
    rw [htk] at hr9
    have hsum2 : n = 1 ∨ (sizes R : Int) ≤ am := by
      rcases hsum with h | h
      · left; omega
      · exact .inr h
    have q1 : ¬ n = 0 := by omega
    have q2 : ¬ (n : Int) = 0 := by omega
    have q3 : ((n : Int) == 0) = false := beq_eq_false_iff_ne.2 (by omega)
    have q4 : ¬ (m : Int) < (n : Int) := by omega
    have q5 : ¬ m < n := by omega
    have q6 : (n : Int) ≤ (c9 : Int) := by omega
    have q7 : n ≤ c9 := by omega
    have q8 : (0 : Int) ≤ (n : Int) := by omega
    have q9 : (0 : Int) < (n : Int) := by omega
    have HS9 := Lib.hid (HS8.out.trans hs9)
    have H9 := Lib.hid hH9
    have HR8 := Lib.hid hr8
    have HR9 := Lib.hid hr9
    have HB8' := Lib.hid hb8
    have HM8' := Lib.hid hm8
    have HRO := Lib.hid hRok
    have HSM := Lib.hid hsum2
    have HN := Lib.hid hn
    have HO8 := Lib.hid ho8
    clear hs9 hH9 hm9 hb9 hR hT hm9' hpre hy hyb hsum hRok hm ho8 ho9 hb8 hbc8 hx0 hr8 hr9 htk hsum2 hm8 hn
    go_wp2_with fail
    refine (samebatches_ok (H9.out.use HR8.out) (H9.out.use HR9.out) (by omega) (fun x hx => (HRO.out x hx).1.sm)).mono ?_
    rintro e w10 ⟨rfl, hb10⟩
    have zz := (hb10.cell (p := ⟨g8, f8, none⟩) (World.block_lt_of_cell? _ _ z0)).trans z0
    have H10 := Lib.hid (H9.out.below hb10 (Nat.le_refl _))
    clear hb10 z0
    go_wp2_with fail
    go_loopg [18, 19] R.length (fun m vs vi wr => LimRel P9 (A ++ (Ad ++ [])) R m vs vi wr)
    case atStart => exact ⟨0, by omega, rfl, rfl, H10.out⟩
    case round =>
      obtain ⟨k, hk, rfl, rfl, hHr⟩ := hrel
      by_cases hlt : k < R.length
      · obtain ⟨gj, rfl⟩ : ∃ x, gk = x + 1 := ⟨gk - 1, by omega⟩
        have hko : k < out8.length := by rw [HO8.out, HN.out]; exact hlt
        obtain ⟨g, off, cap, hvv, hcp, hbc⟩ := HB8'.out.at_ hko
        simp only [Value.slice.injEq, Option.some.injEq, Addr.mk.injEq] at hvv
        obtain ⟨⟨rfl, rfl, -⟩, -, rfl⟩ := hvv
        have hx : (out8[k]'hko).1 = R[k] := by have := HM8'.out; subst this; simp
        obtain ⟨x, hxd⟩ : ∃ x, x = R[k] := ⟨_, rfl⟩
        obtain ⟨p2, hp2⟩ : ∃ p2, (out8[k]'hko).2 = p2 := ⟨_, rfl⟩
        obtain ⟨-, c0, c1, c2, hrc⟩ := hHr.use hbc
        rw [hx, ← hxd] at c0 c1 hrc
        rw [hp2] at c2 hrc
        obtain ⟨ra, rc, rfl⟩ := hrc.shape
        have hbv : BtV wr (.agg #[.int .i64 x.b, .int .i64 x.e, .slice ra x.r.length rc]) x := ⟨_, rfl, hrc⟩
        obtain ⟨hxo, hxb⟩ := HRO.out x (by rw [hxd]; exact List.getElem_mem hlt)
        have htn := take_next R k hlt
        rw [← hxd] at htn
        have hsl := szB_le x hxo
        have hks : sizes (R.take k) ≤ 38816 * k := by
          have h : ∀ M : List Bt, (∀ x, x ∈ M → BtOk x) → sizes M ≤ 38816 * M.length := by
            intro M
            induction M with
            | nil => intro _; simp [sizes]
            | cons x M ih =>
              intro h
              have h1 := szB_le x (h x List.mem_cons_self)
              have h2 := ih (fun y hy => h y (List.mem_cons_of_mem _ hy))
              simp only [sizes, List.map_cons, List.sum_cons, List.length_cons] at h2 ⊢
              omega
          have h1 := h (R.take k) (fun y hy => (HRO.out y (List.mem_of_mem_take hy)).1)
          have h2 : (R.take k).length = k := by rw [List.length_take, Nat.min_eq_left (by omega)]
          rw [h2] at h1; exact h1
        have hst : sizes (R.take (k + 1)) = sizes (R.take k) + szB x := by rw [htn, sizes_app]; simp [sizes]
        obtain ⟨sk, hsk⟩ : ∃ sk, sizes (R.take k) = sk := ⟨_, rfl⟩
        obtain ⟨sz, hszd⟩ : ∃ sz, szB x = sz := ⟨_, rfl⟩
        rw [hsk] at hks hst ⊢
        rw [hszd] at hsl hst
        have j1 : (k : Int) < (n : Int) := by have := HN.out; omega
        have j2 : (0 : Int) ≤ (k : Int) := by omega
        have HST := Lib.hid hst
        have HSD := Lib.hid hszd
        have HBV := Lib.hid hbv
        have HR := Lib.hid hHr
        clear hst hszd hsk hbv hHr hx hxd hp2 hbc htn hrc
        go_wp2_with fail
        refine (rsize_any x hxo hxb _ _ HBV.out).mono ?_
        rintro e w11 ⟨rfl, hb11⟩
        rw [HSD.out]
        have H11 := Lib.hid (HR.out.below hb11 (Nat.le_refl _))
        clear hb11
        go_wp2_with fail
        go_roundg gj
        case measure => omega
        case rel => exact ⟨k + 1, by omega, by rw [HST.out]; simp, by simp, H11.out⟩
      · obtain rfl : k = R.length := by omega
        have htl : R.take R.length = R := List.take_length
        rw [htl]
        obtain ⟨sk, hsk⟩ : ∃ sk, sizes R = sk := ⟨_, rfl⟩
        rw [hsk]
        have hsm := HSM.out
        rw [hsk] at hsm
        have jj : ¬ (R.length : Int) < (n : Int) := by have := HN.out; omega
        have jj2 : ¬ R.length < n := by have := HN.out; omega
        have HR := Lib.hid hHr
        clear htl hsk hHr
        by_cases h1 : n = 1
        · subst h1
          clear hsm
          go_wp2_with fail
          go_ret
          exact ⟨rfl, HR.out.to_below HS9.out⟩
        · have h2 : (sk : Int) ≤ am := by omega
          have h3 : ¬ (n : Int) = 1 := by omega
          have h4 : ((n : Int) == 1) = false := beq_eq_false_iff_ne.2 (by omega)
          clear hsm
          go_wp2_with fail
          go_ret
          exact ⟨rfl, HR.out.to_below HS9.out⟩

end Go.Proofs.YtlkkagjpapjehaaGreatDoor.Sg

/-! SegLimitsRow -/
namespace Go.Proofs.YtlkkagjpapjehaaGreatDoor.segLimits
open Go.ChangeShapes Go.WideShapes Go.ChangeAt Go.RowKit
open Go.Proofs.YtlkkagjpapjehaaGreatDoor.Sg
set_option linter.unusedVariables false

theorem own : ownKnob Tryz.prog.godebug = none := by kernel_rfl
theorem laidOut : laidOutB Tryz.prog = true := by kernel_rfl

theorem door_met (os : Os) (args : Array Value) : laidMetH Tryz.prog Rows.segLimitsRow.laid ((World.doorLaid Tryz.prog 400 os).forCall (fun _ _ => 0) ⟨#[], args, []⟩).memory :=
  laidMetH_of_parts3 (fuel := 8) (laidMet_of_run' 8 (by kernel_rfl) (by kernel_rfl)) (by kernel_rfl) (by kernel_rfl)

theorem reads (os : Os) {H : Type} (enc : TypeId × Value → H) : ∃ places, DataW.whole enc Tryz.prog ((World.doorLaid Tryz.prog 400 os).forCall (fun _ _ => 0) ⟨#[], #[.slice none 0 0, .int .i64 0, .int .i64 0, .int .i64 0], []⟩).memory Tryz.f3.params.toList Rows.segLimitsSpec.vars false (#[.slice none 0 0, .int .i64 0, .int .i64 0, .int .i64 0] : Array Value).toList 8 = some ([.nil, .lit (.int .i64 0), .lit (.int .i64 0), .lit (.int .i64 0)], [], places) :=
  ⟨[], by kernel_rfl⟩

set_option maxRecDepth 100000 in
theorem contract (H : Type) (enc : TypeId × Value → H) (W : World) (base : Nat) (args : Array Value) (ds gs : List (DataW H)) (before : List MemPlace)
    (hval0 : ∀ (j : Nat) t v, Tryz.f3.params[j]? = some t → args[j]? = some v → Value.okWide Tryz.prog W .any base t v)
    (hW : DataW.Whole enc Tryz.prog Tryz.f3.params.toList Rows.segLimitsSpec.vars false W args.toList ds gs before) (hL : laidMetH Tryz.prog Rows.segLimitsRow.laid W) (hsh : W.ShapedOpen Tryz.prog) :
    Calls Tryz.prog 3 args W fun e W' => ∃ v, e = .returned v ∧ Rows.segLimitsSpec.post enc Tryz.prog Tryz.f3 false true false false W args v W' := by
  have hval : ∀ (j : Nat) t v, Tryz.f3.params[j]? = some t → args[j]? = some v → Value.okWide Tryz.prog W .any base t v := hval0
  have hW' := hW
  obtain ⟨p, q, hA0, hV, rfl, hfz, hnd⟩ := hW
  have hA : DataW.TrodAll enc Tryz.prog W 0 (fun _ => true) true Tryz.f3.params.toList args.toList ds p := hA0
  rw [Tryz.params3] at hA hval
  obtain ⟨v0, vs0, d0, ds0, p0, q0, hargs, rfl, rfl, h0, r0⟩ := trodAll_cons hA
  obtain ⟨v1, vs1, d1, ds1, p1, q1, rfl, rfl, rfl, h1, r1⟩ := trodAll_cons r0
  obtain ⟨v2, vs2, d2, ds2, p2, q2, rfl, rfl, rfl, h2, r2⟩ := trodAll_cons r1
  obtain ⟨v3, vs3, d3, ds3, p3, q3, rfl, rfl, rfl, h3, r3⟩ := trodAll_cons r2
  obtain ⟨rfl, rfl, rfl⟩ := trodAll_nil r3
  obtain rfl : args = #[v0, v1, v2, v3] := by cases args; simp_all
  obtain ⟨rfl, rfl⟩ := trodVars_none hV
  obtain ⟨a0, len0, cap0, rfl⟩ := okWide_slice Tryz.underlying22 (hval 0 22 v0 rfl rfl)
  have k0 := h0
  have lt0 : ∀ x ∈ p0, x.block < W.heap.size := by obtain ⟨m, hm⟩ := k0; exact DataW.trod_lt m _ _ _ hm
  obtain ⟨z0, w0⟩ : ∃ zs, IsRow W a0 len0 cap0 zs := by
    obtain ⟨fuel, hf⟩ := h0
    rcases open_ints Tryz.underlying22 Tryz.underlying3 (by kernel_rfl) hf with ⟨hcs, _⟩ | ⟨x, l, c, zs, hcs, _, hl, hm, hz, _, hcell, hwz⟩
    · simp [Value.cells] at hcs
      obtain ⟨rfl, rfl, rfl⟩ := hcs
      exact ⟨[], .inl ⟨rfl, rfl, rfl, rfl⟩⟩
    · simp [Value.cells] at hcs
      obtain ⟨rfl, rfl, rfl⟩ := hcs
      exact ⟨zs, .inr ⟨_, rfl, hl, hm, by simpa using hz, hcell, hwz⟩⟩
  obtain ⟨a1, rfl, rfl, rfl, w1⟩ := open_int Tryz.underlying2 (hval 1 2 v1 rfl rfl) h1
  obtain ⟨a2, rfl, rfl, rfl, w2⟩ := open_int Tryz.underlying3 (hval 2 3 v2 rfl rfl) h2
  obtain ⟨a3, rfl, rfl, rfl, w3⟩ := open_int Tryz.underlying3 (hval 3 3 v3 rfl rfl) h3
  have hL0 := hL
  rw [MakeChecks.laidMetH_plain _ _ _ (by kernel_rfl)] at hL0
  obtain ⟨hT, hE⟩ := laid11 (W := W) hL0 (Er.gmax_le hsh)
  clear hA0 hval0
  refine (limits_all a0 len0 cap0 z0 a1 a2 a3 W w0 l11_all hE hT).mono fun e W' ⟨he, bel⟩ => ?_
  subst he
  exact ⟨_, rfl, _, _, _, [], _, [], hW', trodAll_mk1 (shut_bool Tryz.underlying4 _), (trodAll_cons_mk (Below.trod laidOut (by kernel_rfl) (of_decide_eq_true (by kernel_rfl)) k0 bel lt0) (trodAll_cons_mk (shut_int Tryz.underlying2 w1) (trodAll_cons_mk (shut_int Tryz.underlying3 w2) (trodAll_cons_mk (shut_int Tryz.underlying3 w3) trodAll_mk0)))), rfl, bel.frame _, fun h => by cases h⟩

set_option maxRecDepth 100000 in
theorem lifted (os : Os) (started : os.Started) (H : Type) (enc : TypeId × Value → H) (F : Stop.Interp) :
    ReturnsInHanded {} Tryz.checked os 3 .any ((OpenSpec.ofChange Rows.segLimitsSpec).preRow enc Tryz.prog Tryz.f3 Rows.segLimitsRow.domain false Rows.segLimitsRow.laid) (((OpenSpec.ofChange Rows.segLimitsSpec).at F).post enc Tryz.prog Tryz.f3 false true false false) := by
  obtain ⟨places, hx⟩ := reads os enc
  refine returnsInHanded_of_row (C := Tryz.checked) (s := OpenSpec.ofChange Rows.segLimitsSpec) own started (by kernel_rfl) Tryz.func3
    (witness_row_atRef (enc := enc) (C := Tryz.checked) false (World.doorLaid Tryz.prog 400 os) #[.slice none 0 0, .int .i64 0, .int .i64 0, .int .i64 0] rfl (by kernel_rfl) (by kernel_rfl) (by kernel_rfl)
      (OpenSpec.preRow_of_cond 8 hx (by kernel_rfl) (fun k hk => by cases hk) (by kernel_rfl) (door_met os _))) ?_
  intro W base args ds gs before hval hW _ _ _ hL hsh _
  exact contract H enc W base args ds gs before hval hW hL hsh

theorem said : Rows.SegLimitsSaid :=
  OpenClaim.holds_of_cond 3 Tryz.f3 rfl rfl rfl rfl rfl rfl rfl ⟨rfl, rfl, rfl, rfl, rfl⟩ rfl rfl rfl rfl rfl (by kernel_rfl) Tryz.func3 (by kernel_rfl)
    (of_decide_eq_true (by kernel_rfl)) (by unfold Func.isWrapper; rw [if_neg (of_decide_eq_false (by kernel_rfl))]; exact ⟨rfl, rfl⟩)
    (fun os started H enc _ F => by rw [OpenClaim.pre_eq_preRow]; exact lifted os started H enc F)

theorem plain (f : FuncId) (fn : Func) (hf : Tryz.pinned.checked.prog.funcNamed "cordwood/cordwoodlaw7.SegLimits" = some f) (hfn : Tryz.pinned.checked.prog.funcs[f]? = some fn) :
    true = Tryz.pinned.checked.prog.looks [] ∧ ∀ (j : Nat) t, fn.params[j]? = some t → Tryz.pinned.checked.prog.wantsStandIn t = false := by
  obtain rfl : f = 3 := Option.some.inj ((show Tryz.prog.funcNamed "cordwood/cordwoodlaw7.SegLimits" = some 3 by kernel_rfl).symm.trans hf) |>.symm
  obtain rfl : fn = Tryz.f3 := (Option.some.inj (Tryz.func3.symm.trans hfn)).symm
  refine ⟨by kernel_rfl, fun j t ht => ?_⟩
  rw [Tryz.params3] at ht
  have hm := Array.mem_of_getElem? ht
  have ht2 : t = 22 ∨ t = 2 ∨ t = 3 := by simpa [or_assoc] using hm
  rcases ht2 with rfl | rfl | rfl
  · exact (show Tryz.prog.wantsStandIn 22 = false by kernel_rfl)
  · exact (show Tryz.prog.wantsStandIn 2 = false by kernel_rfl)
  · exact (show Tryz.prog.wantsStandIn 3 = false by kernel_rfl)

/-- THE CARD -/
theorem card : Rows.SegLimitsCardSaid :=
  Claim7.holds_tied_plain_at .later [] _ _ _ _ said (fun _ h => by cases h) (by kernel_rfl) (fun _ h => by cases h) segLimits_row_tie rfl ⟨rfl, rfl⟩ (by kernel_rfl) rfl plain (by kernel_rfl)
#print axioms card
end Go.Proofs.YtlkkagjpapjehaaGreatDoor.segLimits
