/- cordwoodlaw10.HotDrops answers true for every input. The table of powers and the errors out of the lists of chapter 10's rows. The statement HotDrops of chapter 10 holds for every input: the call returns true and leaves its arguments as they were. -/
import Derived.Test.YthocnhdefnbchaaGreatDoorMHotDropsA
import Derived.Test.YthocnhdefnbchaaGreatDoorMl
import Derived.Test.YthocnhdefnbchaaGreatDoorMi
import Derived.Test.YthocnhdefnbchaaGreatDoorMf
import Derived.Test.YthocnhdefnbchaaGreatDoorRows
import Derived.Test.YthocnhdefnbchaaGreatDoorMHotDropsB
import Derived.Test.YthocnhdefnbchaaGreatDoorCards
import Derived.Test.YthocnhdefnbchaaGreatDoorTie
import Derived.Stop.LaidErr
import Derived.ProofKit
import Derived.OpenShut
import Derived.LaidMore
import Derived.Deep.DeepWitnessRowRef

/-! Jg -/
namespace Go.Proofs.YthocnhdefnbchaaGreatDoor.Sg
open Go.RowKit Er Go.Maps

/-- What is left of a log when its first segments are let be none. -/
theorem HotOn.dropped {D4 D : Dk} {H4 : Hl} {b0 b : Int} {L l2 : List Bt} {pre L2 : List (Nat × Sg)} (h4 : HotOn D4 H4 b0 L) (hL : H4.L = pre ++ L2) (hne : L2 ≠ []) {dd seg every : Nat} (h : HotOn D ⟨dd, seg, every, L2⟩ b l2) :
    ∃ kk, kk ≤ L.length ∧ b = endOf b0 (L.take kk) ∧ l2 = L.drop kk ∧ endOf b l2 = endOf b0 L ∧ (∀ k (hk : k < L.length), L[k].b < b ↔ k < kk) := by
  cases L2 with
  | nil => exact absurd rfl hne
  | cons p L3 =>
    obtain ⟨s, G⟩ := p
    obtain ⟨-, hb, -, -, hl⟩ := h4.split hL
    have hr : ∀ x, x ∈ L → 1 ≤ x.r.length := fun x hx => (h4.ok x hx).1.n1
    have hst : (G.base : Int) = b := h.hstart (by simp)
    have hfl : G.l ++ (L3.map (·.2.l)).flatten = l2 := by
      have := h.fl
      simpa using this
    obtain ⟨kk, hkk⟩ : ∃ k, ((pre.map (·.2.l)).flatten).length = k := ⟨_, rfl⟩
    rw [hfl] at hl
    have ht : L.take kk = (pre.map (·.2.l)).flatten := by rw [hl, ← hkk, List.take_left]
    have hd : L.drop kk = l2 := by rw [hl, ← hkk, List.drop_left]
    have hkl : kk ≤ L.length := by rw [hl, List.length_append]; omega
    have hbb : b = endOf b0 (L.take kk) := by rw [ht, ← hb, hst]
    refine ⟨kk, hkl, hbb, hd.symm, by rw [hbb, ← hd, ← endOf_app, List.take_append_drop], fun k hk => ?_⟩
    have hx : L[k].b = endOf b0 (L.take k) := by
      have hc := h4.ch
      rw [← take_split L k hk] at hc
      exact ((chain_app _ _ _ _).1 hc).2.1
    rw [hx, hbb]
    rcases Nat.lt_or_ge k kk with h1 | h1
    · exact ⟨fun _ => h1, fun _ => endOf_mono hr h4.ch h1 hkl⟩
    · refine ⟨fun h2 => ?_, fun h2 => by omega⟩
      rcases Nat.lt_or_ge kk k with h3 | h3
      · have := endOf_mono hr h4.ch h3 (by omega)
        omega
      · rw [show k = kk by omega] at h2; omega

/-- The loop's state. -/
def DrRel (P : Pm) (hx dx seg : Nat) (L4 : List (Nat × Sg)) (qn m : Nat) (vi : Value) (w : World) : Prop :=
  ∃ (i : Nat) (pre L2 : List (Nat × Sg)) (A Ad : Mm) (D : Dk) (b : Int) (l2 : List Bt), i + m = qn ∧ vi = .int .i64 i ∧ L4 = pre ++ L2 ∧ L2 ≠ [] ∧ HlM hx ⟨dx, seg, 60, L2⟩ A ∧ DkM P dx D Ad ∧ HotOn D ⟨dx, seg, 60, L2⟩ b l2 ∧ Hp w P (A ++ (Ad ++ []))

theorem perm_sad (At A Ad : Mm) : List.Perm (At ++ (A ++ (Ad ++ []))) (A ++ (Ad ++ At)) := by
  have := List.perm_append_comm (l₁ := At) (l₂ := A ++ Ad)
  simpa [List.append_assoc] using this
theorem perm_ads (At A Ad : Mm) : List.Perm (A ++ (Ad ++ At)) (At ++ (A ++ (Ad ++ []))) := (perm_sad At A Ad).symm
/-- A row of batches from an index on. -/
theorem btsR_drop {w : World} {g off n c : Nat} {L : List Bt} (h : BtsR w (.slice (some ⟨g, off, none⟩) n c) L) (i : Nat) (hi : i ≤ L.length) : BtsR w (.slice (some ⟨g, off + i * 3, none⟩) (n - i) (c - i)) (L.drop i) ∧ (i = L.length → c = i → BtsR w (.slice (some ⟨g, off, none⟩) (n - i) (c - i)) (L.drop i)) := by
  rcases h with ⟨h1, -⟩ | ⟨g', off', c', h1, h2, h3, h4⟩
  · cases h1
  · cases h1
    refine ⟨.inr ⟨g, off + i * 3, c - i, by rw [List.length_drop], by rw [List.length_drop]; omega, h3, fun k x hx => ?_⟩, fun e1 e2 => .inr ⟨g, off, c - i, by rw [List.length_drop], by rw [List.length_drop]; omega, h3, fun k x hx => ?_⟩⟩
    · rw [List.getElem?_drop] at hx
      have := h4 (i + k) x hx
      rwa [show off + (i + k) * 3 = off + i * 3 + k * 3 by omega] at this
    · rw [List.drop_of_length_le (by omega)] at hx
      simp at hx

set_option maxRecDepth 100000 in
set_option maxHeartbeats 16000000 in
theorem hotdrops_all (a0 : Option Addr) (len0 cap0 : Nat) (z0 : List Int) (a b : Int) (a3 : Option Addr) (len3 cap3 : Nat) (z3 : List Int) (W : World) (h : IsRow W a0 len0 cap0 z0) (hp : IsRow W a3 len3 cap3 z3) (hS : ∀ i, i < 10 ∨ i = 14 → i ∈ List.range 19) (hE : Errs (List.range 19) W (errAt W) W.heap.size)
    (hT : Lib.TabIs Tryz.prog W "internal/strconv.uint64pow10" .u64 Lib.pow10Tab) :
    Calls Tryz.prog 6 #[.slice a0 len0 cap0, .int .i64 a, .int .i64 b, .slice a3 len3 cap3] W fun e W' => e = .returned (.bool true) ∧ Below W.heap.size W W' := by
  have C := ctx_start hS hE hT
  obtain ⟨xs, rfl, hC⟩ := isRow_C h
  obtain ⟨ps, rfl, hQ⟩ := isRow_C hp
  have hCp := ints_pers hC
  have hQp := ints_pers hQ
  have H0 : Hid (Hp W (Pm.start W) []) := Hp.start W
  have HCP := Lib.hid hCp
  have HCQ := Lib.hid hQp
  clear h hC hp hQ hE hT hCp hQp
  obtain ⟨n, hn⟩ : ∃ n, xs.length = n := ⟨_, rfl⟩
  obtain ⟨np, hnp⟩ : ∃ n, ps.length = n := ⟨_, rfl⟩
  have HNX := Lib.hid hn
  have HNP := Lib.hid hnp
  rw [hn, hnp]
  have hcase : (20 < n) ∨ (¬ 20 < n ∧ 5 < np) ∨ (¬ 20 < n ∧ ¬ 5 < np) := by omega
  rcases hcase with h1 | ⟨h1, h3⟩ | ⟨h1, h3⟩
  · clear hn hnp
    go_enter Tryz.func6, Tryz.ntmps6
    go_wp2_with fail
    refine (first10_ok C H0.out).mono ?_
    rintro e w1 ⟨rfl, P1, hs1, hH1⟩
    have HB := Lib.hid (hH1.to_below hs1)
    clear hH1 hs1
    go_wp2_with fail
    go_ret
    exact ⟨rfl, HB.out⟩
  · have d1 : decide ((20 : Int) < (n : Int)) = false := decide_eq_false (by omega)
    have d3 : decide ((5 : Int) < (np : Int)) = true := decide_eq_true (by omega)
    have d4 : (decide ((20 : Int) < (n : Int)) || decide ((5 : Int) < (np : Int))) = true := by rw [d1, d3]; rfl
    clear hn hnp
    go_enter Tryz.func6, Tryz.ntmps6
    go_wp2_with fail
    refine (first10_ok C H0.out).mono ?_
    rintro e w1 ⟨rfl, P1, hs1, hH1⟩
    have HB := Lib.hid (hH1.to_below hs1)
    clear hH1 hs1
    go_wp2_with fail
    go_ret
    exact ⟨rfl, HB.out⟩
  · obtain ⟨hch, hok, hsz, hen1, hen2⟩ := row20b 3 xs 0 (by omega) (by omega)
    obtain ⟨L, hLd⟩ : ∃ L, L = rowGo 3 xs 0 ((0 : Nat) : Int) := ⟨_, rfl⟩
    have hll : L.length = n := by rw [hLd]; exact (row_len 3 xs 0 _).trans hn
    rw [← hLd] at hch hok hsz hen1 hen2
    obtain ⟨qa, hqa⟩ : ∃ q : Nat, a % ((300 : Nat) : Int) = (q : Int) := ⟨(a % 300).toNat, by omega⟩
    have hqa5 : qa < 300 := by omega
    obtain ⟨qn, hqn⟩ : ∃ q : Nat, b % ((12 : Nat) : Int) = (q : Int) := ⟨(b % 12).toNat, by omega⟩
    have hqn5 : qn < 12 := by omega
    obtain ⟨oe, hoe⟩ : ∃ o, endOf ((0 : Nat) : Int) L = o := ⟨_, rfl⟩
    have hoe2 : endOf ((0 : Nat) : Int) (L.take n) = oe := by rw [List.take_of_length_le (by omega)]; exact hoe
    have HOE := Lib.hid hoe
    have HOE2 := Lib.hid hoe2
    have HQA := Lib.hid hqa
    have HQN := Lib.hid hqn
    have HLD := Lib.hid hLd
    have HCH := Lib.hid hch
    have HOK := Lib.hid hok
    have HSZ := Lib.hid hsz
    have HLL := Lib.hid hll
    have d1 : decide ((20 : Int) < (n : Int)) = false := decide_eq_false (by omega)
    have d3 : decide ((5 : Int) < (np : Int)) = false := decide_eq_false (by omega)
    have d4 : (decide ((20 : Int) < (n : Int)) || decide ((5 : Int) < (np : Int))) = false := by rw [d1, d3]; rfl
    have n8 : n ≤ 20 := by omega
    clear hn hnp hLd hch hok hsz hll hqa hqn hoe hoe2 hen1 hen2
    go_enter Tryz.func6, Tryz.ntmps6
    go_wp2_with fail
    refine (first10_ok C H0.out).mono ?_
    rintro e w1 ⟨rfl, P1, hs1, hH1⟩
    have H1 := Lib.hid hH1
    have HS1 := Lib.hid hs1
    clear hH1 hs1
    go_wp2_with fail
    refine (number_any a 300 (by omega) (by omega) _).mono ?_
    rintro e w' ⟨rfl, rfl⟩
    rw [HQA.out]
    go_wp2_with fail
    rw [show (qa : Int) + 1 = ((qa + 1 : Nat) : Int) from rfl]
    refine (row_m H1.out a0 xs cap0 n HNX.out (HCP.out.sub HS1.out) 3 (by decide) (by omega) 0 (by decide) (by decide)).mono ?_
    rintro e w2 ⟨v2, P2, out2, rfl, hs2, hm2, hb2, hH2⟩
    have hm2' : out2.map (·.1) = L := hm2.trans HLD.out.symm
    have hol : out2.length = n := by have := congrArg List.length hm2'; rw [List.length_map, HLL.out] at this; exact this
    have H2 := Lib.hid hH2
    have HB2 := Lib.hid hb2
    have HM2 := Lib.hid hm2'
    have HO2 := Lib.hid hol
    have HS2 := Lib.hid (HS1.out.trans hs2)
    have HC2 := Lib.hid (C.sub (HS1.out.trans hs2))
    clear hm2 hs2 hb2 hH2 hm2' hol
    obtain ⟨va, vc, hva, hvc⟩ := HB2.out.shape
    rw [HO2.out] at hva hvc
    subst hva
    go_wp2_with fail
    refine (made10_ok HC2.out (qa + 1) (by omega) (by omega) 0 (by omega) _ out2 HB2.out L HM2.out HCH.out HOK.out HSZ.out H2.out).mono ?_
    rintro e w3 ⟨dx, hx, P3, Ax, Adx, Dx, Hx, rfl, hs3, hMx, hDx, hOx, hd3, hseg3, hev3, -, -, -, -, hnx, hH3⟩
    obtain ⟨L0, s0, G0, hL0⟩ : ∃ L0 s G, Hx.L = L0 ++ [(s, G)] := by
      rcases lastHl Hx.L with h | h
      · exact absurd h hnx
      · exact h
    have hfl := hflush_on (HC2.out.sub hs3) hMx hOx hDx hL0 hH3
    have HFL := Lib.hid hfl
    have HHX := Lib.hid (show Hx.d = dx ∧ Hx.seg = qa + 1 ∧ Hx.every = 60 from ⟨hd3, hseg3, hev3⟩)
    have HS3 := Lib.hid (HS2.out.trans hs3)
    have HC3 := Lib.hid (HC2.out.sub hs3)
    have HB3 := Lib.hid (HB2.out.sub hs3)
    clear hs3 hMx hDx hOx hd3 hseg3 hev3 hnx hH3 hfl hL0
    go_wp2_with fail
    refine HFL.out.mono ?_
    rintro e w4 ⟨rfl, A4, Ad4, D4, hM4, hD4, hO4, hH4⟩
    obtain ⟨L4, hL4⟩ : ∃ L, L = L0 ++ [(s0, G0.syn)] := ⟨_, rfl⟩
    have hHe : ({ Hx with L := L0 ++ [(s0, G0.syn)] } : Hl) = ⟨dx, qa + 1, 60, L4⟩ := by obtain ⟨q1, q2, q3⟩ := HHX.out; rw [← hL4, ← q1, ← q2, ← q3]
    rw [hHe] at hM4 hO4
    have hwh : ∀ p, p ∈ L4 → p.2.kept = sizes p.2.l := hO4.whole (L0 := L0) (s := s0) (G := G0.syn) hL4 rfl
    have hne4 : L4 ≠ [] := by rw [hL4]; simp
    have hD4' : DkM P3 dx D4 Ad4 := by rw [← HHX.out.1]; exact hD4
    have hrel0 : ∀ w', Hp w' P3 (A4 ++ (Ad4 ++ [])) → DrRel P3 hx dx (qa + 1) L4 qn qn (.int .i64 0) w' := fun w' hw => ⟨0, [], L4, A4, Ad4, D4, _, _, by omega, rfl, rfl, hne4, hM4, hD4', hO4, hw⟩
    have HREL := Lib.hid hrel0
    have HO4 := Lib.hid hO4
    have HWH := Lib.hid hwh
    have H4' := Lib.hid hH4
    clear hM4 hD4 hD4' hO4 hwh hne4 hH4 hHe hL4 hrel0
    go_wp2_with fail
    refine (number_any b 12 (by omega) (by omega) _).mono ?_
    rintro e w' ⟨rfl, rfl⟩
    rw [HQN.out]
    go_wp2_with fail
    go_loopg [13] qn (fun m vi wr => DrRel P3 hx dx (qa + 1) L4 qn m vi wr)
    case atStart => exact HREL.out _ H4'.out
    case round =>
      obtain ⟨i, pre, L2, A, Ad, D, bb, l2, hi, rfl, hL4, hne, hM, hD, hO, hHr⟩ := hrel
      have HM := Lib.hid hM
      have HD := Lib.hid hD
      have HO := Lib.hid hO
      have HHR := Lib.hid hHr
      have HNE := Lib.hid hne
      have HL4 := Lib.hid hL4
      have HI := Lib.hid hi
      have hcs : ¬ i < qn ∨ (i < qn ∧ ∃ s G, L2 = [(s, G)]) ∨ (i < qn ∧ ∃ s G s1 G1 L5, L2 = (s, G) :: (s1, G1) :: L5) := by
        rcases Nat.lt_or_ge i qn with h | h
        · right
          match L2, hne with
          | [(s, G)], _ => exact .inl ⟨h, s, G, rfl⟩
          | (s, G) :: (s1, G1) :: L5, _ => exact .inr ⟨h, s, G, s1, G1, L5, rfl⟩
        · exact .inl (by omega)
      clear hM hD hO hHr hne hL4 hi
      rcases hcs with hin | ⟨hin, s, G, hL2⟩ | ⟨hin, s, G, s1, G1, L5, hL2⟩
      case' inr.inr =>
        obtain ⟨gj, rfl⟩ : ∃ x, gk = x + 1 := ⟨gk - 1, by have := HI.out; omega⟩
        subst hL2
        obtain ⟨m2, hm2⟩ : ∃ m, L5.length = m := ⟨_, rfl⟩
        have hW := HO.out.W
        have hm9 : m2 ≤ 1000000 := by have := HO.out.small.2; dsimp only at this; simp only [List.length_cons] at this; omega
        have HW := Lib.hid hW
        have HM2' := Lib.hid hm2
        clear hm2 hW
        go_wp2_with fail
        refine (hsegs_ok HM.out HW.out HHR.out).mono ?_
        rintro e w5 ⟨v5, At, rfl, ht5, hH5⟩
        have ht5' : RowM 61 3 v5 (m2 + 2) (triV (triG G :: triG G1 :: L5.map fun p => triG p.2)) At := by
          have := ht5
          unfold TriM at this
          simpa [HM2'.out] using this
        obtain ⟨g5, c5, e1, e2, e3⟩ := RowM.cell ht5' hH5 (triV_at _ 1 (triG G1) rfl).1
        subst e1
        have hcl : ∀ w' X, Hp w' P3 (At ++ X) → w'.cell? ⟨g5, 3, none⟩ = some (.int .i64 G1.base) := fun w' X hx => by
          obtain ⟨g', c', q1, q2, q3⟩ := RowM.cell ht5' hx (triV_at _ 1 (triG G1) rfl).1
          simp only [Value.slice.injEq, Option.some.injEq, Addr.mk.injEq] at q1
          obtain ⟨⟨rfl, -⟩, -⟩ := q1
          exact q3
        have HCL := Lib.hid hcl
        have H5 := Lib.hid (hH5.perm (perm_sad At A Ad))
        have n1 : ¬ ((m2 + 2 : Nat) : Int) < 2 := by omega
        have n2 : ¬ (m2 : Int) + 2 < 2 := by omega
        clear ht5 ht5' hH5 hcl e3
        go_wp2_with fail
        refine (hdrop_ok HC3.out HM.out HO.out HD.out rfl (by simp) H5.out).mono ?_
        rintro e w6 ⟨rfl, A6, Ad6, D6, hM6, hD6, hO6, hH6⟩
        have HM6 := Lib.hid hM6
        have HD6 := Lib.hid hD6
        have HO6 := Lib.hid hO6
        have HW6 := Lib.hid hO6.W
        have H6 := Lib.hid hH6
        have b0 := HCL.out _ _ (hH6.perm (perm_ads At A6 Ad6))
        have i1 : (1 : Int) < ((m2 + 2 : Nat) : Int) := by omega
        have i2 : (1 : Int) < (m2 : Int) + 2 := by omega
        have k1 : IntKind.i64.wrap (((m2 + 2 : Nat) : Int) - 1) = ((m2 + 1 : Nat) : Int) := by rw [show ((m2 + 2 : Nat) : Int) - 1 = ((m2 + 1 : Nat) : Int) from by omega]; exact IntWalk.i64_in _ (by omega)
        have k2 : IntKind.i64.wrap ((m2 : Int) + 2 - 1) = (m2 : Int) + 1 := by rw [show (m2 : Int) + 2 - 1 = (m2 : Int) + 1 from by omega]; exact IntWalk.i64_in _ (by omega)
        clear hM6 hD6 hO6 hH6
        go_wp2_with fail
        go_region_held3 (fun w' => w'.cell? ⟨g5, 3, none⟩ = some (.int .i64 G1.base))
          (first
            | go_keep
            | exact b0)
          (first
            | (go_at_call 37
               with_reducible refine (hstart_ok HM6.out HW6.out H6.out.drew).mono ?_
               rintro e w7 ⟨rfl, hHa⟩
               rw [show Hl.start ⟨dx, qa + 1, 60, (s1, G1) :: L5⟩ = (G1.base : Int) from rfl]
               have b0 := HCL.out _ _ (hHa.perm (perm_ads At A6 Ad6)))
            | (go_at_call 30
               with_reducible refine (hsegs_ok HM6.out HW6.out hHa).mono ?_
               rintro e w8 ⟨v8, A8, rfl, ht8, hHb⟩
               have ht9 : RowM 61 3 v8 (m2 + 1) (triV (triG G1 :: L5.map fun p => triG p.2)) A8 := by
                 have := ht8
                 unfold TriM at this
                 simpa [HM2'.out] using this
               obtain ⟨tb, td, rfl⟩ := ht9.shape
               have b0 := HCL.out _ _ (hHb.drop.perm (perm_ads At A6 Ad6))))
        have hH8 := (hHb.drop.perm (perm_ads At A6 Ad6)).drop
        have H8 := Lib.hid hH8
        clear hHb hH8 ht8 ht9
        go_wp2_with fail
        go_roundg gj
        case measure => have := HI.out; omega
        case rel => exact ⟨i + 1, pre ++ [(s, G)], (s1, G1) :: L5, A6, Ad6, D6, _, _, by have := HI.out; omega, by simp, by rw [HL4.out]; simp, by simp, HM6.out, HD6.out, HO6.out, H8.out⟩
      case' inr.inl =>
        subst hL2
        have hW := HO.out.W
        have HW := Lib.hid hW
        clear hW
        go_wp2_with fail
        refine (hsegs_ok HM.out HW.out HHR.out).mono ?_
        rintro e w5 ⟨v5, At, rfl, ht5, hH5⟩
        have ht5' : RowM 61 3 v5 1 (triV [triG G]) At := ht5
        obtain ⟨ta, tc, rfl⟩ := ht5'.shape
        have H5 := Lib.hid (Hp.mid hH5)
        clear ht5 ht5' hH5
        go_wp2_with fail
        refine (hdrop_one HC3.out HM.out rfl H5.out).mono ?_
        rintro e w6 ⟨rfl, hH6⟩
        rw [← ev_some (errAt W) 6]
        have HE6 := Lib.hid (HC3.out.errs _ hH6.agr)
        have H6 := Lib.hid hH6
        clear hH6
        go_wp2_with fail
        refine (is_any HE6.out (101 + 6) (.inr (by omega)) 107).mono ?_
        rintro e w7 ⟨rfl, hb7⟩
        rw [show ((((101 + 6 : Nat) : Int)) == 107) = true from by decide]
        have H7 := Lib.hid (H6.out.below hb7 (Nat.le_refl _))
        clear hb7
        go_wp2_with fail
        refine (hsegs_ok HM.out HW.out H7.out).mono ?_
        rintro e w8 ⟨v8, A8, rfl, ht8, hH8⟩
        have ht9 : RowM 61 3 v8 1 (triV [triG G]) A8 := ht8
        obtain ⟨tb, td, rfl⟩ := ht9.shape
        have HXX := Lib.hid (Hp.mid hH8.drop).drop
        clear ht8 ht9 hH8
        obtain ⟨L2, hL2⟩ : ∃ L, L = [(s, G)] := ⟨_, rfl⟩
        rw [← hL2] at HM HO HNE HL4 HW
        clear hL2 HW
        go_wp2_with fail
      case' inl =>
        have HXX := Lib.hid HHR.out
        go_wp2_with fail
      all_goals
        obtain ⟨kk, hkk, hbb, hl2, hend2, hcmp⟩ := HO4.out.dropped HL4.out HNE.out HO.out
        have hst0 : Hl.start ⟨dx, qa + 1, 60, L2⟩ = bb := HO.out.hstart HNE.out
        have hun : D.un = D := un_of HO.out.I.arm HO.out.I.down
        have hall : ∀ p, p ∈ L2 → p.2.kept = sizes p.2.l := fun p hp => HWH.out p (by rw [HL4.out]; exact List.mem_append_right _ hp)
        have hst1 : CrSt D dx (qa + 1) 60 bb l2 l2.length false := crst_done (H := ⟨dx, qa + 1, 60, L2⟩) (D6 := D) (by rw [hun, List.take_length]; exact HO.out) hall HNE.out (Nat.le_refl _) (HD.out.blks_nd (Hp.mid HXX.out))
        have hszk : sizes l2 ≤ 1048576 := by
          have h1 := sizes_app (L.take kk) (L.drop kk)
          rw [List.take_append_drop] at h1
          have h2 := HSZ.out
          rw [hl2]
          omega
        have hl2l : l2.length ≤ 1000 := by rw [hl2, List.length_drop]; have := HLL.out; omega
        have hkkn : kk ≤ n := by rw [← HLL.out]; exact hkk
        have HST0 := Lib.hid hst0
        have HST := Lib.hid hst1
        have HSZK := Lib.hid hszk
        have HL2L := Lib.hid hl2l
        have HL2 := Lib.hid hl2
        have HEND2 := Lib.hid hend2
        have HCMP := Lib.hid hcmp
        clear hkk hbb hl2 hend2 hcmp hst0 hun hall hst1 hszk hl2l
        refine (hstart_ok HM.out HO.out.W HXX.out).mono ?_
        rintro e w9 ⟨rfl, hH9⟩
        rw [HST0.out]
        have H9 := Lib.hid (Hp.mid hH9)
        clear hH9
        obtain ⟨hW6, hn6, hc6, hk6, hq6⟩ := HST.out
        obtain ⟨q, hq⟩ : ∃ q, pickF ps 0 D.ch.length = q := ⟨_, rfl⟩
        obtain ⟨hi6, hf6, hcr6⟩ := hq6 q
        have hcrash := crash_ok HD.out hW6 hc6 hk6 q a3 ps cap3 hq hi6 hf6 (by omega) (HCQ.out.sub HS3.out) H9.out
        rw [HNP.out] at hcrash
        have HCRA := Lib.hid hcrash
        have HCR6 := Lib.hid hcr6
        clear hW6 hn6 hc6 hk6 hq6 hi6 hf6 hcrash hcr6 hq
        go_wp2_with fail
        refine HCRA.out.mono ?_
        rintro e w10 ⟨rfl, p, P10, Ad10, hp10, hs10, hD10, hH10⟩
        obtain ⟨L1, k3, hO10, hL1, hk3a, hk3b, -⟩ := HCR6.out p hp10
        have hk3 : k3 = l2.length := by omega
        rw [hk3, List.take_length] at hO10
        have hop := hopen_on (HC3.out.sub hs10) hD10 hO10 (by omega) (by omega) hH10
        have HOP := Lib.hid hop
        have HS10 := Lib.hid hs10
        have HL1 := Lib.hid hL1
        clear hp10 hs10 hD10 hH10 hO10 hL1 hk3a hk3b hk3 hop
        go_wp2_with fail
        refine HOP.out.mono ?_
        rintro e w11 ⟨xh, P11, A11, Ad11, D11, Ln, rfl, hs11, hM11, hD11, hO11, hmap11, -, -, -, hH11⟩
        have hne11 : Ln ≠ [] := by
          intro h
          rw [h] at hmap11
          have := congrArg List.length hmap11
          simp at this
          exact HL1.out (List.eq_nil_of_length_eq_zero this.symm)
        obtain ⟨HX, hHX⟩ : ∃ H, H = (⟨dx, qa + 1, 60, Ln⟩ : Hl) := ⟨_, rfl⟩
        rw [← hHX] at hM11 hO11
        have hne11' : HX.L ≠ [] := by rw [hHX]; exact hne11
        have hst11 : HX.start = bb := hO11.hstart hne11'
        have hend11 : HX.end_ = oe := (hO11.hend hne11').trans (HEND2.out.trans HOE.out)
        have hD11' : DkM P11 HX.d D11 Ad11 := by rw [hHX]; exact hD11
        have HM11 := Lib.hid hM11
        have HD11 := Lib.hid hD11'
        have HO11 := Lib.hid hO11
        have HNE11 := Lib.hid hne11'
        have HST11 := Lib.hid hst11
        have HEND11 := Lib.hid hend11
        have HS11 := Lib.hid (HS10.out.trans hs11)
        have H11 := Lib.hid hH11
        clear hs11 hM11 hD11 hD11' hO11 hmap11 hne11 hne11' hst11 hend11 hH11 hHX
        go_wp2_with fail
        refine (hstart_ok HM11.out HO11.out.W H11.out).mono ?_
        rintro e w12 ⟨rfl, hH12⟩
        rw [HST11.out]
        have H12 := Lib.hid hH12
        clear hH12
        go_wp2_with fail
        refine (hend_ok HM11.out HO11.out.W H12.out).mono ?_
        rintro e w13 ⟨rfl, hH13⟩
        rw [HEND11.out]
        go_wp2_with fail
        refine (at10_ok (HB3.out.sub HS11.out) HM2.out HOK.out n (by rw [HLL.out]; exact Nat.le_refl _) (by rw [HLL.out]; omega) oe HOE2.out hH13).mono ?_
        rintro e w14 ⟨rfl, hH14⟩
        have H14 := Lib.hid hH14
        clear hH13 hH14
        go_wp2_with fail
        refine (all10_ok (HC3.out.sub HS11.out) HM11.out HO11.out HNE11.out HD11.out HSZK.out HL2L.out H14.out).mono ?_
        rintro e w16 ⟨v16, out16, P16, rfl, hs16, hm16, hb16, hH16⟩
        obtain ⟨sa, sc, hva16, -⟩ := hb16.shape
        subst hva16
        have HM16 := Lib.hid hm16
        have HB16 := Lib.hid hb16
        have HS16 := Lib.hid (HS11.out.trans hs16)
        have H16 := Lib.hid hH16
        have r1 : Pers P16 (fun w => BtsR w (.slice sa out16.length sc) l2) := by
          have := hb16.read
          rw [hm16] at this
          exact this
        have HR1 := Lib.hid r1
        clear hs16 hm16 hb16 hH16 r1
        go_wp2_with fail
        go_loopg [21] n (fun m vi wr => ∃ i : Nat, i + m = n ∧ i ≤ kk ∧ vi = .int .i64 i ∧ Hp wr P16 (A11 ++ (Ad11 ++ (A ++ []))))
        case atStart => exact ⟨0, by omega, Nat.zero_le _, rfl, H16.out⟩
        case round =>
          obtain ⟨i, hi, hik, rfl, hHr⟩ := hrel
          have HHR := Lib.hid hHr
          clear hHr
          by_cases hin : i < n
          · obtain ⟨gj, rfl⟩ : ∃ x, gk = x + 1 := ⟨gk - 1, by omega⟩
            have hio : i < out2.length := by rw [HO2.out]; exact hin
            have hiL : i < L.length := by rw [HLL.out]; exact hin
            obtain ⟨g, off, cap, hvv, hcap, hbc⟩ := HB3.out.at_ hio
            rw [HO2.out] at hvv hcap
            simp only [Value.slice.injEq] at hvv
            obtain ⟨rfl, -, rfl⟩ := hvv
            obtain ⟨x, hx⟩ : ∃ x, L[i] = x := ⟨_, rfl⟩
            have hxi : (out2[i]'hio).1 = x := by
              have h1 : (out2.map (·.1))[i]? = some x := by rw [HM2.out, List.getElem?_eq_getElem hiL, hx]
              rw [List.getElem?_map, List.getElem?_eq_getElem hio] at h1
              simpa using h1
            obtain ⟨p2, hp2⟩ : ∃ p2, (out2[i]'hio).2 = p2 := ⟨_, rfl⟩
            have hbc16 := hbc.sub HS16.out
            obtain ⟨-, c0, c1, c2, -⟩ := HHR.out.use hbc16
            rw [hxi] at c0 c1
            rw [hp2] at c2
            have hcs : (i < kk ∧ x.b < bb) ∨ (i = kk ∧ ¬ x.b < bb) := by
              have h1 := HCMP.out i hiL
              rw [hx] at h1
              rcases Nat.lt_or_ge i kk with h | h
              · exact .inl ⟨h, h1.2 h⟩
              · exact .inr ⟨by omega, fun h2 => by have := h1.1 h2; omega⟩
            have j1 : (i : Int) < (n : Int) := by omega
            have j2 : (0 : Int) ≤ (i : Int) := by omega
            have HI := Lib.hid hi
            clear hbc hbc16 hx hxi hp2 hi
            rcases hcs with ⟨q1, q2⟩ | ⟨q1, q2⟩
            · go_wp2_with fail
              go_roundg gj
              case measure => have := HI.out; omega
              case rel => exact ⟨i + 1, by have := HI.out; omega, by omega, by simp, HHR.out⟩
            · subst q1
              have r2 : Pers P16 (fun w => BtsR w (.slice (some ⟨g, off + i * 3, none⟩) (n - i) (vc - i)) l2) := by
                have h1 := (HB3.out.sub HS16.out).read
                rw [HM2.out] at h1
                refine h1.imp (fun w1 h => ?_)
                rw [HL2.out]
                exact (btsR_drop h i (by omega)).1
              have hjo := joined10_ok (HHR.out.use HR1.out) (HHR.out.use r2) (by have := HL2L.out; omega) (fun x hx => (HOK.out x (by rw [HL2.out] at hx; exact List.mem_of_mem_drop hx)).1.sm)
              have HJO := Lib.hid hjo
              have l1 : (i : Int) ≤ (n : Int) := by omega
              have l2' : (i : Int) ≤ (vc : Int) := by omega
              have l3 : (n : Int) ≤ (vc : Int) := by omega
              have l4 : ¬ vc = i := by omega
              clear r2 hjo
              go_wp2_with fail
              refine (HJO.out).mono ?_
              rintro e w19 ⟨rfl, hb19⟩
              have HB19 := Lib.hid ((HHR.out.below hb19 (Nat.le_refl _)).to_below (HS3.out.trans HS16.out))
              clear hb19
              go_wp2_with fail
              go_ret
              exact ⟨by simp, HB19.out⟩
          · have hie : i = n := by omega
            have hkn : kk = n := by omega
            have hl0 : l2 = [] := by rw [HL2.out, hkn, ← HLL.out, List.drop_length]
            subst hl0
            have HI := Lib.hid hi
            clear hi hik hin hkn hkkn
            have hbts := HB3.out
            rcases hbts with ⟨h1, -⟩ | ⟨g, off, cap, h1, -, hg, -⟩
            · simp only [Value.slice.injEq] at h1
              obtain ⟨rfl, hn0, rfl⟩ := h1
              have hi0 : i = 0 := by omega
              subst hi0
              clear hie
              subst hn0
              have hjo := joined10_ok (HHR.out.use HR1.out) (v2 := .slice none 0 0) (.inl ⟨rfl, rfl⟩) (by simp) (fun x hx => by simp at hx)
              have HJO := Lib.hid hjo
              clear hjo
              go_wp2_with fail
              refine (HJO.out).mono ?_
              rintro e w19 ⟨rfl, hb19⟩
              have HB19 := Lib.hid ((HHR.out.below hb19 (Nat.le_refl _)).to_below (HS3.out.trans HS16.out))
              clear hb19
              go_wp2_with fail
              go_ret
              exact ⟨by simp, HB19.out⟩
            · rw [HO2.out] at h1
              simp only [Value.slice.injEq] at h1
              obtain ⟨rfl, -, rfl⟩ := h1
              have hgw := HHR.out.use (hg.sub HS16.out)
              have HG := Lib.hid hgw
              have j3 : ¬ (i : Int) < (n : Int) := by omega
              clear hgw hg
              have hjo : ∀ o2 c2, _ := fun o2 c2 => joined10_ok (HHR.out.use HR1.out) (v2 := .slice (some ⟨g, o2, none⟩) 0 c2) (.inr ⟨g, o2, c2, rfl, Nat.zero_le _, HG.out, fun k x hx => by simp at hx⟩) (by simp) (fun x hx => by simp at hx)
              have HJO := Lib.hid hjo
              clear hjo
              subst hie
              have l2' : (i : Int) ≤ (vc : Int) := by omega
              by_cases hcv : vc = i
              · subst hcv
                go_wp2_with fail
                refine (HJO.out _ _).mono ?_
                rintro e w19 ⟨rfl, hb19⟩
                have HB19 := Lib.hid ((HHR.out.below hb19 (Nat.le_refl _)).to_below (HS3.out.trans HS16.out))
                clear hb19
                go_wp2_with fail
                go_ret
                exact ⟨by simp, HB19.out⟩
              · go_wp2_with fail
                refine (HJO.out _ _).mono ?_
                rintro e w19 ⟨rfl, hb19⟩
                have HB19 := Lib.hid ((HHR.out.below hb19 (Nat.le_refl _)).to_below (HS3.out.trans HS16.out))
                clear hb19
                go_wp2_with fail
                go_ret
                exact ⟨by simp, HB19.out⟩
end Go.Proofs.YthocnhdefnbchaaGreatDoor.Sg

/-! Cy -/
namespace Go.Proofs.YthocnhdefnbchaaGreatDoor.Sg
open Go.RowKit Er

def l12 : List Nat := [0, 1, 2, 3, 4, 5, 6, 7, 8, 9, 12, 14]
theorem l12_all : ∀ i, i < 10 ∨ i = 14 → i ∈ l12 := by
  intro i hi
  rcases hi with hi | rfl
  · have : ∀ j : Fin 10, j.val ∈ l12 := by decide
    exact this ⟨i, hi⟩
  · decide
theorem l19_all2 : ∀ i, i < 10 ∨ i = 14 → i ∈ List.range 19 := by intro i hi; rw [List.mem_range]; omega

theorem tab_of2 {rest : List (String × DataW Unit)} {W : World} (h : laidMet Tryz.prog (("math/bits.deBruijn32tab", Rows.laid_math_bits_deBruijn32tab) :: ("math/bits.deBruijn64tab", Rows.laid_math_bits_deBruijn64tab) :: ("internal/strconv.uint64pow10", Rows.laid_internal_strconv_uint64pow10) :: rest) W) :
    Lib.TabIs Tryz.prog W "internal/strconv.uint64pow10" .u64 Lib.pow10Tab ∧ laidMet Tryz.prog rest W := by
  have h2 := laidMet.tail (laidMet.tail h)
  refine ⟨?_, laidMet.tail h2⟩
  exact Lib.tabIs_of_head (zs := Lib.pow10Tab) (k := .u64) (g := 19) (t := 284) (e := 155) (n := 20) (by kernel_rfl) (by kernel_rfl) (by kernel_rfl) (by kernel_rfl) (by kernel_rfl) (by kernel_rfl) h2
theorem hlaid12 {W : World} (h : laidMet Tryz.prog Rows.hotRecoversRow.laid W) (hsz : gmax ≤ W.heap.size) : Lib.TabIs Tryz.prog W "internal/strconv.uint64pow10" .u64 Lib.pow10Tab ∧ Errs l12 W (errAt W) W.heap.size := by
  obtain ⟨h1, h2⟩ := tab_of2 h
  exact ⟨h1, errs_of_laid l12 (by decide) h2 hsz⟩
theorem hlaid19 {W : World} (h : laidMet Tryz.prog Rows.hotReadsRow.laid W) (hsz : gmax ≤ W.heap.size) : Lib.TabIs Tryz.prog W "internal/strconv.uint64pow10" .u64 Lib.pow10Tab ∧ Errs (List.range 19) W (errAt W) W.heap.size := by
  obtain ⟨h1, h2⟩ := tab_of2 h
  exact ⟨h1, errs_of_laid (List.range 19) (by decide) h2 hsz⟩

end Go.Proofs.YthocnhdefnbchaaGreatDoor.Sg

/-! HotDropsRow -/
namespace Go.Proofs.YthocnhdefnbchaaGreatDoor.hotDrops
open Go.ChangeShapes Go.WideShapes Go.ChangeAt Go.RowKit
open Go.Proofs.YthocnhdefnbchaaGreatDoor.Sg
set_option linter.unusedVariables false
set_option maxRecDepth 100000 in
theorem contract (H : Type) (enc : TypeId × Value → H) (W : World) (base : Nat) (args : Array Value) (ds gs : List (DataW H)) (before : List MemPlace)
    (hval0 : ∀ (j : Nat) t v, Tryz.f6.params[j]? = some t → args[j]? = some v → Value.okWide Tryz.prog W .any base t v)
    (hW : DataW.Whole enc Tryz.prog Tryz.f6.params.toList Rows.hotDropsSpec.vars false W args.toList ds gs before) (hL : laidMetH Tryz.prog Rows.hotDropsRow.laid W) (hsh : W.ShapedOpen Tryz.prog) :
    Calls Tryz.prog 6 args W fun e W' => ∃ v, e = .returned v ∧ Rows.hotDropsSpec.post enc Tryz.prog Tryz.f6 false true false false W args v W' := by
  have hval : ∀ (j : Nat) t v, Tryz.f6.params[j]? = some t → args[j]? = some v → Value.okWide Tryz.prog W .any base t v := hval0
  have hW' := hW
  obtain ⟨p, q, hA0, hV, rfl, hfz, hnd⟩ := hW
  have hA : DataW.TrodAll enc Tryz.prog W 0 (fun _ => true) true Tryz.f6.params.toList args.toList ds p := hA0
  rw [Tryz.params6] at hA hval
  obtain ⟨v0, vs0, d0, ds0, p0, q0, hargs, rfl, rfl, h0, r0⟩ := trodAll_cons hA
  obtain ⟨v1, vs1, d1, ds1, p1, q1, rfl, rfl, rfl, h1, r1⟩ := trodAll_cons r0
  obtain ⟨v2, vs2, d2, ds2, p2, q2, rfl, rfl, rfl, h2, r2⟩ := trodAll_cons r1
  obtain ⟨v3, vs3, d3, ds3, p3, q3, rfl, rfl, rfl, h3, r3⟩ := trodAll_cons r2
  obtain ⟨rfl, rfl, rfl⟩ := trodAll_nil r3
  obtain rfl : args = #[v0, v1, v2, v3] := by cases args; simp_all
  obtain ⟨rfl, rfl⟩ := trodVars_none hV
  obtain ⟨a0, len0, cap0, rfl⟩ := okWide_slice Tryz.underlying50 (hval 0 50 v0 rfl rfl)
  have k0 := h0
  have lt0 : ∀ x ∈ p0, x.block < W.heap.size := by obtain ⟨m, hm⟩ := k0; exact DataW.trod_lt m _ _ _ hm
  obtain ⟨z0, w0⟩ : ∃ zs, IsRow W a0 len0 cap0 zs := by
    obtain ⟨fuel, hf⟩ := h0
    rcases open_ints Tryz.underlying50 Tryz.underlying3 (by kernel_rfl) hf with ⟨hcs, _⟩ | ⟨x, l, c, zs, hcs, _, hl, hm, hz, _, hcell, hwz⟩
    · simp [Value.cells] at hcs
      obtain ⟨rfl, rfl, rfl⟩ := hcs
      exact ⟨[], .inl ⟨rfl, rfl, rfl, rfl⟩⟩
    · simp [Value.cells] at hcs
      obtain ⟨rfl, rfl, rfl⟩ := hcs
      exact ⟨zs, .inr ⟨_, rfl, hl, hm, by simpa using hz, hcell, hwz⟩⟩
  obtain ⟨a1, rfl, rfl, rfl, w1⟩ := open_int Tryz.underlying3 (hval 1 3 v1 rfl rfl) h1
  obtain ⟨a2, rfl, rfl, rfl, w2⟩ := open_int Tryz.underlying3 (hval 2 3 v2 rfl rfl) h2
  obtain ⟨a3, len3, cap3, rfl⟩ := okWide_slice Tryz.underlying50 (hval 3 50 v3 rfl rfl)
  have k3 := h3
  have lt3 : ∀ x ∈ p3, x.block < W.heap.size := by obtain ⟨m, hm⟩ := k3; exact DataW.trod_lt m _ _ _ hm
  obtain ⟨z3, w3⟩ : ∃ zs, IsRow W a3 len3 cap3 zs := by
    obtain ⟨fuel, hf⟩ := h3
    rcases open_ints Tryz.underlying50 Tryz.underlying3 (by kernel_rfl) hf with ⟨hcs, _⟩ | ⟨x, l, c, zs, hcs, _, hl, hm, hz, _, hcell, hwz⟩
    · simp [Value.cells] at hcs
      obtain ⟨rfl, rfl, rfl⟩ := hcs
      exact ⟨[], .inl ⟨rfl, rfl, rfl, rfl⟩⟩
    · simp [Value.cells] at hcs
      obtain ⟨rfl, rfl, rfl⟩ := hcs
      exact ⟨zs, .inr ⟨_, rfl, hl, hm, by simpa using hz, hcell, hwz⟩⟩
  have hL0 := hL
  rw [MakeChecks.laidMetH_plain _ _ _ (by kernel_rfl)] at hL0
  obtain ⟨hT, hE⟩ := hlaid19 (W := W) hL0 (Er.gmax_le hsh)
  clear hA0 hval0
  refine (hotdrops_all a0 len0 cap0 z0 a1 a2 a3 len3 cap3 z3 W w0 w3 l19_all2 hE hT).mono fun e W' ⟨he, bel⟩ => ?_
  subst he
  exact ⟨_, rfl, _, _, _, [], _, [], hW', trodAll_mk1 (shut_bool Tryz.underlying4 _), (trodAll_cons_mk (Below.trod laidOut (by kernel_rfl) (of_decide_eq_true (by kernel_rfl)) k0 bel lt0) (trodAll_cons_mk (shut_int Tryz.underlying3 w1) (trodAll_cons_mk (shut_int Tryz.underlying3 w2) (trodAll_cons_mk (Below.trod laidOut (by kernel_rfl) (of_decide_eq_true (by kernel_rfl)) k3 bel lt3) trodAll_mk0)))), rfl, bel.frame _, fun h => by cases h⟩

set_option maxRecDepth 100000 in
theorem lifted (os : Os) (started : os.Started) (H : Type) (enc : TypeId × Value → H) (F : Stop.Interp) :
    ReturnsInHanded {} Tryz.checked os 6 .any ((OpenSpec.ofChange Rows.hotDropsSpec).preRow enc Tryz.prog Tryz.f6 Rows.hotDropsRow.domain false Rows.hotDropsRow.laid) (((OpenSpec.ofChange Rows.hotDropsSpec).at F).post enc Tryz.prog Tryz.f6 false true false false) := by
  obtain ⟨places, hx⟩ := reads os enc
  refine returnsInHanded_of_row (C := Tryz.checked) (s := OpenSpec.ofChange Rows.hotDropsSpec) own started (by kernel_rfl) Tryz.func6
    (witness_row_atRef (enc := enc) (C := Tryz.checked) false (World.doorLaid Tryz.prog 400 os) #[.slice none 0 0, .int .i64 0, .int .i64 0, .slice none 0 0] rfl (by kernel_rfl) (by kernel_rfl) (by kernel_rfl)
      (OpenSpec.preRow_of_cond 8 hx (by kernel_rfl) (fun k hk => by cases hk) (by kernel_rfl) (door_met os _))) ?_
  intro W base args ds gs before hval hW _ _ _ hL hsh _
  exact contract H enc W base args ds gs before hval hW hL hsh

theorem said : Rows.HotDropsSaid :=
  OpenClaim.holds_of_cond 6 Tryz.f6 rfl rfl rfl rfl rfl rfl rfl ⟨rfl, rfl, rfl, rfl, rfl⟩ rfl rfl rfl rfl rfl (by kernel_rfl) Tryz.func6 closed
    (of_decide_eq_true (by kernel_rfl)) (by unfold Func.isWrapper; rw [if_neg (of_decide_eq_false (by kernel_rfl))]; exact ⟨rfl, rfl⟩)
    (fun os started H enc _ F => by rw [OpenClaim.pre_eq_preRow]; exact lifted os started H enc F)

theorem card : Rows.HotDropsCardSaid :=
  Claim7.holds_tied_plain_at .later [] _ _ _ _ said (fun _ h => by cases h) (by kernel_rfl) (fun _ h => by cases h) hotDrops_row_tie rfl ⟨rfl, rfl⟩ (by kernel_rfl) rfl plain (by kernel_rfl)

#print axioms card
end Go.Proofs.YthocnhdefnbchaaGreatDoor.hotDrops
