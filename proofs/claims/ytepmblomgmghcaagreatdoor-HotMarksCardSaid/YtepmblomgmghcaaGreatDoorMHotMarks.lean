/- cordwoodlaw10.HotMarks answers true for every input. The table of powers and the errors out of the lists of chapter 10's rows. The statement HotMarks of chapter 10 holds for every input: the call returns true and leaves its arguments as they were. -/
import Derived.Test.YtepmblomgmghcaaGreatDoorMHotMarksA
import Derived.Test.YtepmblomgmghcaaGreatDoorMf
import Derived.Test.YtepmblomgmghcaaGreatDoorRows
import Derived.Test.YtepmblomgmghcaaGreatDoorMHotMarksB
import Derived.Test.YtepmblomgmghcaaGreatDoorCards
import Derived.Test.YtepmblomgmghcaaGreatDoorTie
import Derived.Stop.LaidErr
import Derived.ProofKit
import Derived.OpenShut
import Derived.LaidMore
import Derived.Deep.DeepWitnessRowRef

/-! Je -/
namespace Go.Proofs.YtepmblomgmghcaaGreatDoor.Sg
open Go.RowKit Er Go.Maps

/-! ### a segment's batches among all -/
def flt (b e : Int) (l : List Bt) : List Bt := l.filter fun x => decide (b ≤ x.b) && decide (x.b < e)
theorem flt_in (b e : Int) (l : List Bt) (x : Bt) (h1 : b ≤ x.b) (h2 : x.b < e) : flt b e (l ++ [x]) = flt b e l ++ [x] := by simp [flt, List.filter_append, h1, h2]
theorem flt_out (b e : Int) (l : List Bt) (x : Bt) (h : ¬ (b ≤ x.b ∧ x.b < e)) : flt b e (l ++ [x]) = flt b e l := by
  have : (decide (b ≤ x.b) && decide (x.b < e)) = false := by
    rcases Int.lt_or_le x.b b with h1 | h1
    · rw [decide_eq_false (by omega), Bool.false_and]
    · rw [decide_eq_false (p := x.b < e) (fun h2 => h ⟨h1, h2⟩), Bool.and_false]
  simp only [flt, List.filter_append, List.filter_cons, this, List.filter_nil]
  simp
theorem sizes_flt (b e : Int) : ∀ l : List Bt, sizes (flt b e l) ≤ sizes l
  | [] => Nat.le_refl _
  | x :: l => by
    have ih := sizes_flt b e l
    unfold flt at ih ⊢
    rw [List.filter_cons]
    split <;> simp only [sizes, List.map_cons, List.sum_cons] at ih ⊢ <;> omega

section
variable {S : List Nat} {E : Nat → Addr} {B : Nat} {P : Pm} {h : Nat} {H : Hl} {D : Dk} {A Ad F : Mm} {w : World} {b0 : Int} {l : List Bt}

theorem HotOn.flt (hO : HotOn D H b0 l) {L1 L2 : List (Nat × Sg)} {s : Nat} {G : Sg} (hL : H.L = L1 ++ (s, G) :: L2) : flt G.base G.end_ l = G.l := by
  obtain ⟨h1, h2, h3, h4, h5⟩ := hO.split hL
  have hr : ∀ x, x ∈ l → 1 ≤ x.r.length := fun x hx => (hO.ok x hx).1.n1
  rw [h5] at hr ⊢
  have e1 : Sg.flt G.base G.end_ (L1.map (·.2.l)).flatten = [] := by
    refine List.filter_eq_nil_iff.2 (fun x hx => ?_)
    have := chain_mem _ _ _ h3 (fun y hy => hr y (List.mem_append_left _ hy)) x hx
    have := hr x (List.mem_append_left _ hx)
    simp only [Bool.and_eq_true, decide_eq_true_eq]
    omega
  have e2 : Sg.flt G.base G.end_ G.l = G.l := by
    refine List.filter_eq_self.2 (fun x hx => ?_)
    have := chain_mem _ _ _ h1 (fun y hy => hr y (by simp only [List.mem_append]; exact .inr (.inl hy))) x hx
    have := hr x (by simp only [List.mem_append]; exact .inr (.inl hx))
    simp only [Bool.and_eq_true, decide_eq_true_eq]
    rw [end_eq]
    omega
  have e3 : Sg.flt G.base G.end_ (L2.map (·.2.l)).flatten = [] := by
    refine List.filter_eq_nil_iff.2 (fun x hx => ?_)
    have := chain_mem _ _ _ h4 (fun y hy => hr y (by simp only [List.mem_append]; exact .inr (.inr hy))) x hx
    simp only [Bool.and_eq_true, decide_eq_true_eq]
    omega
  unfold Sg.flt at e1 e2 e3 ⊢
  rw [List.filter_append, List.filter_append, e1, e2, e3]
  simp
/-- Where a segment begins is not behind the end. -/
theorem HotOn.low (hO : HotOn D H b0 l) {p : Nat × Sg} (hp : p ∈ H.L) : (p.2.base : Int) ≤ endOf b0 l := by
  obtain ⟨L1, L2, hL⟩ := List.append_of_mem hp
  obtain ⟨h1, h2, h3, h4, h5⟩ := hO.split (s := p.1) (G := p.2) hL
  have hr : ∀ x, x ∈ l → 1 ≤ x.r.length := fun x hx => (hO.ok x hx).1.n1
  rw [h5] at hr ⊢
  have h6 := chain_ge _ _ _ h4 (fun y hy => hr y (by simp only [List.mem_append]; exact .inr (.inr hy)))
  have h7 := hO.segend hp
  rw [endOf_app, endOf_app, ← h2, ← end_eq]
  omega
end

/-! ### the epochs' pairs -/
theorem prAdd_pr (out : List (Int × Int)) (p : Int × Int) : ∃ t, prAdd out p = out ++ t := by
  unfold prAdd
  split
  · exact ⟨_, rfl⟩
  · split
    · exact ⟨[], by simp⟩
    · exact ⟨_, rfl⟩
theorem prsB_pr : ∀ (l : List Bt) (out : List (Int × Int)), ∃ t, prsB l out = out ++ t
  | [], out => ⟨[], by simp [prsB]⟩
  | x :: l, out => by
    obtain ⟨t1, h1⟩ := prAdd_pr out (x.e, x.b)
    obtain ⟨t2, h2⟩ := prsB_pr l (prAdd out (x.e, x.b))
    refine ⟨t1 ++ t2, ?_⟩
    show prsB l (prAdd out (x.e, x.b)) = _
    rw [h2, h1, List.append_assoc]
theorem prs_first (L : List Bt) (hk : 0 < L.length) : prsB (L.take 1) [] = [((L[0]).e, (L[0]).b)] := by
  rw [take_next L 0 hk]; rfl
theorem prs_next (L : List Bt) (j : Nat) (hk : j + 1 < L.length) : prsB (L.take (j + 1 + 1)) [] = if (L[j]).e = (L[j + 1]).e then prsB (L.take (j + 1)) [] else prsB (L.take (j + 1)) [] ++ [((L[j + 1]).e, (L[j + 1]).b)] := by
  rw [take_next L (j + 1) hk, prsB_snoc]
  have h1 : L.take (j + 1) = L.take j ++ [L[j]] := take_next L j (by omega)
  obtain ⟨o', q, h2, h3⟩ := prsB_last (L.take j) L[j] []
  rw [h1, h2, prAdd_snoc, h3]
/-- The pair that a batch begins stands where it is looked for. -/
theorem prs_at (L : List Bt) (k : Nat) (o : List (Int × Int)) (p : Int × Int) (h : prsB (L.take (k + 1)) [] = o ++ [p]) : ∃ (hj : o.length < (prsB L []).length), (prsB L [])[o.length] = p := by
  have h1 : prsB L [] = prsB (L.drop (k + 1)) (prsB (L.take (k + 1)) []) := by rw [← prsB_app, List.take_append_drop]
  obtain ⟨t, ht⟩ := prsB_pr (L.drop (k + 1)) (prsB (L.take (k + 1)) [])
  rw [ht, h] at h1
  have h2 : (prsB L [])[o.length]? = some p := by rw [h1]; simp
  obtain ⟨h3, h4⟩ := List.getElem?_eq_some_iff.1 h2
  exact ⟨h3, h4⟩

theorem permMA (At Ax Ad : Mm) : List.Perm (At ++ (Ax ++ (Ad ++ []))) (Ax ++ (Ad ++ At)) := by
  have := perm_mid At (Ax ++ Ad) []
  simpa [List.append_assoc] using this
theorem permMB (At Ax Ad : Mm) : List.Perm (Ax ++ (Ad ++ At)) (At ++ (Ax ++ Ad)) := by
  have := perm_mid (Ax ++ Ad) At []
  simpa [List.append_assoc] using this

section
variable {S : List Nat} {E : Nat → Addr} {B : Nat} {P : Pm} {F : Mm} {w : World}
/-- What holds at the head of HotMarks' inner loop. -/
def MkRel (P : Pm) (M : Mm) (b e : Int) (L : List Bt) (m : Nat) (vr vt vi : Value) (w : World) : Prop :=
  ∃ (k : Nat) (P' : Pm) (Ar : Mm), k + m = L.length ∧ vi = .int .i64 k ∧ vt = .int .i64 (tm0 (flt b e (L.take k))) ∧ Sub P P' ∧ RowM 5 1 vr (sizes (flt b e (L.take k))) (bcells (flatB (flt b e (L.take k)))) Ar ∧ Hp w P' (Ar ++ M)

set_option maxRecDepth 100000 in
set_option maxHeartbeats 8000000 in
theorem hotmarks_all (a0 : Option Addr) (len0 cap0 : Nat) (z0 : List Int) (a b : Int) (W : World) (h : IsRow W a0 len0 cap0 z0) (hS : ∀ i, i < 10 ∨ i = 14 → i ∈ List.range 19) (hE : Errs (List.range 19) W (errAt W) W.heap.size)
    (hT : Lib.TabIs Tryz.prog W "internal/strconv.uint64pow10" .u64 Lib.pow10Tab) :
    Calls Tryz.prog 9 #[.slice a0 len0 cap0, .int .i64 a, .int .i64 b] W fun e W' => e = .returned (.bool true) ∧ Below W.heap.size W W' := by
  have C := ctx_start hS hE hT
  obtain ⟨xs, rfl, hC⟩ := isRow_C h
  have hCp := ints_pers hC
  have H0 : Hid (Hp W (Pm.start W) []) := Hp.start W
  clear h hC hE hT
  have HCP := Lib.hid hCp
  clear hCp
  by_cases hlen : 20 < xs.length
  · go_enter Tryz.func9, Tryz.ntmps9
    go_wp2_with fail
    refine (first10_ok C H0.out).mono ?_
    rintro e w1 ⟨rfl, P1, hs1, hH1⟩
    have HB := Lib.hid (hH1.to_below hs1)
    clear hH1 hs1
    go_wp2_with fail
    go_ret
    exact ⟨rfl, HB.out⟩
  · have hl1 : xs.length ≤ 20 := by omega
    obtain ⟨hch, hok, hsz, -, hen0⟩ := row20b 3 xs 0 (by omega) hl1
    have htm := row_tm 3 xs 0 ((0 : Nat) : Int)
    obtain ⟨L, hLd⟩ : ∃ L, L = rowGo 3 xs 0 ((0 : Nat) : Int) := ⟨_, rfl⟩
    have hll : L.length = xs.length := by rw [hLd]; exact row_len 3 xs 0 _
    rw [← hLd] at hch hok hsz hen0 htm
    obtain ⟨n, hn⟩ : ∃ n, xs.length = n := ⟨_, rfl⟩
    rw [hn] at hl1 hll hen0
    obtain ⟨qa, hqa⟩ : ∃ q : Nat, a % ((300 : Nat) : Int) = (q : Int) := ⟨(a % 300).toNat, by omega⟩
    have hqa5 : qa < 300 := by omega
    obtain ⟨qb, hqb⟩ : ∃ q : Nat, b % (9 : Int) = (q : Int) := ⟨(b % 9).toNat, by omega⟩
    have hqb5 : qb < 9 := by omega
    have HQA := Lib.hid hqa
    have HQB := Lib.hid hqb
    have HLD := Lib.hid hLd
    have HCH := Lib.hid hch
    have HOK := Lib.hid hok
    have HSZ := Lib.hid hsz
    have HTM := Lib.hid htm
    have HE0 := Lib.hid (show endOf ((0 : Nat) : Int) L ≤ 100 from by omega)
    have HLL := Lib.hid hll
    have HNX := Lib.hid hn
    rw [hn]
    clear hlen hLd hch hok hsz hll hn hqa hqb htm hen0
    go_enter Tryz.func9, Tryz.ntmps9
    go_wp2_with fail
    refine (first10_ok C H0.out).mono ?_
    rintro e w1 ⟨rfl, P1, hs1, hH1⟩
    have H1 := Lib.hid hH1
    have HS1 := Lib.hid hs1
    clear hH1 hs1
    go_wp2_with fail
    refine (number_any a 300 (by omega) (by omega) _).mono ?_
    rintro e w' ⟨rfl, rfl⟩
    rw [HQA.out]
    go_wp2_with fail
    rw [show (qa : Int) + 1 = ((qa + 1 : Nat) : Int) from rfl]
    refine (row_m H1.out a0 xs cap0 n HNX.out (HCP.out.sub HS1.out) 3 (by decide) (by omega) 0 (by decide) (by decide)).mono ?_
    rintro e w2 ⟨v2, P2, out2, rfl, hs2, hm2, hb2, hH2⟩
    have hm2' : out2.map (·.1) = L := hm2.trans HLD.out.symm
    have hol : out2.length = n := by have := congrArg List.length hm2'; rw [List.length_map, HLL.out] at this; exact this
    have H2 := Lib.hid hH2
    have HB2 := Lib.hid hb2
    have HM2 := Lib.hid hm2'
    have HO2 := Lib.hid hol
    have HS2 := Lib.hid (HS1.out.trans hs2)
    have HC2 := Lib.hid (C.sub (HS1.out.trans hs2))
    clear hm2 hs2 hb2 hH2 hm2' hol
    obtain ⟨va, vc, hva, hvc⟩ := HB2.out.shape
    rw [HO2.out] at hva hvc
    subst hva
    go_wp2_with fail
    refine (made10_ok HC2.out (qa + 1) (by omega) (by omega) 0 (by omega) _ out2 HB2.out L HM2.out HCH.out HOK.out HSZ.out H2.out).mono ?_
    rintro e w3 ⟨dx, hx, P3, Ax, Adx, Dx, Hx, rfl, hs3, hMx, hDx, hOx, -, -, -, -, -, -, -, -, hH3⟩
    have H3 := Lib.hid hH3
    have HMx := Lib.hid hMx
    have HDx := Lib.hid hDx
    have HOx := Lib.hid hOx
    have HS3 := Lib.hid (HS2.out.trans hs3)
    have HC3 := Lib.hid (HC2.out.sub hs3)
    have HB3 := Lib.hid (HB2.out.sub hs3)
    clear hH3 hs3 hMx hDx hOx
    go_wp2_with fail
    refine (hsegs_ok HMx.out HOx.out.W H3.out).mono ?_
    rintro e w4 ⟨v4, At, rfl, ht4, hH4⟩
    obtain ⟨ta, tc, rfl⟩ := ht4.shape
    rw [List.length_map] at ht4 ⊢
    obtain ⟨sn, hsn⟩ : ∃ sn, Hx.L.length = sn := ⟨_, rfl⟩
    have hsnb := HOx.out.small.2
    rw [hsn] at ht4 hsnb ⊢
    have HT4 := Lib.hid ht4
    have HSN := Lib.hid hsn
    have H4 := Lib.hid (hH4.perm (permMA At Ax Adx))
    have hfe : (Hx.L.map (·.2.l)).flatten = L := HOx.out.fl
    have HFE := Lib.hid hfe
    clear ht4 hsn hH4 hfe
    -- the cells of a segment's triple
    have htri : ∀ (k : Nat) (hk : k < Hx.L.length) (w' : World) (P' : Pm), Hp w' P' (Ax ++ (Adx ++ At)) → ∃ g, ta = some ⟨g, 0, none⟩ ∧ sn ≤ tc ∧ w'.cell? ⟨g, k * 3, none⟩ = some (.int .i64 ((Hx.L[k]).2.base : Int)) ∧ w'.cell? ⟨g, k * 3 + 1, none⟩ = some (.int .i64 (Hx.L[k]).2.end_) := by
      intro k hk w' P' hh
      have hlm : (Hx.L.map fun p => triG p.2).length = sn := by rw [List.length_map]; exact HSN.out
      obtain ⟨g1, c1, hv1, hcc1, x0, x1, x2⟩ := TriM.gets (l := Hx.L.map fun p => triG p.2) (by have := HT4.out; unfold TriM; rw [hlm]; unfold TriM at this; rwa [hlm] at this) (hh.perm (permMB At Ax Adx)) (j := k) (by rw [List.length_map]; exact hk)
      rw [hlm] at hv1 hcc1
      simp only [Value.slice.injEq] at hv1
      obtain ⟨rfl, -, rfl⟩ := hv1
      simp only [List.getElem_map] at x0 x1
      exact ⟨g1, rfl, hcc1, x0, x1⟩
    have HTRI := Lib.hid htri
    clear htri
    go_wp2_with fail
    go_loopg [12] sn (fun m vi wr => ∃ (k : Nat) (P' : Pm), k + m = sn ∧ vi = .int .i64 k ∧ Sub P3 P' ∧ Hp wr P' (Ax ++ (Adx ++ At)))
    case atStart => exact ⟨0, P3, by omega, rfl, Sub.refl _, H4.out⟩
    case round =>
      obtain ⟨i, P5, hi, rfl, hs5, hHi⟩ := hrel
      by_cases hin : i < sn
      · obtain ⟨gi, rfl⟩ : ∃ x, gk = x + 1 := ⟨gk - 1, by omega⟩
        have hil : i < Hx.L.length := by rw [HSN.out]; exact hin
        obtain ⟨s, hs⟩ : ∃ s, (Hx.L[i]).1 = s := ⟨_, rfl⟩
        obtain ⟨G, hG⟩ : ∃ G, (Hx.L[i]).2 = G := ⟨_, rfl⟩
        have hsp := HlM.nth (H := Hx) i hil
        rw [hs, hG] at hsp
        have htr := fun w' P' hh => HTRI.out i hil w' P' hh
        rw [hG] at htr
        obtain ⟨g, rfl, htc, -⟩ := htr _ _ hHi
        obtain ⟨gb, hgb⟩ : ∃ gb, (G.base : Int) = gb := ⟨_, rfl⟩
        obtain ⟨ge, hge⟩ : ∃ ge, G.end_ = ge := ⟨_, rfl⟩
        have hflt := HOx.out.flt hsp
        rw [hgb, hge] at hflt
        have hcl : ∀ (w' : World) (P' : Pm), Hp w' P' (Ax ++ (Adx ++ At)) → w'.cell? ⟨g, i * 3, none⟩ = some (.int .i64 gb) ∧ w'.cell? ⟨g, i * 3 + 1, none⟩ = some (.int .i64 ge) := fun w' P' hh => by
          obtain ⟨g', e1, -, e2, e3⟩ := htr w' P' hh
          cases e1
          rw [hgb] at e2
          rw [hge] at e3
          exact ⟨e2, e3⟩
        have HCL := Lib.hid hcl
        have HFLT := Lib.hid hflt
        have HGB := Lib.hid hgb
        have HSP := Lib.hid hsp
        have HHI := Lib.hid hHi
        have HS5 := Lib.hid hs5
        have HI := Lib.hid hi
        have i1 : (i : Int) < (sn : Int) := by omega
        have i2 : (0 : Int) ≤ (i : Int) := by omega
        clear hs hG hsp htr hgb hge hflt hcl hHi hs5 hi
        go_wp2_with fail
        go_loopg [13, 14, 15] L.length (fun m vr vt vi wr => MkRel P5 (Ax ++ (Adx ++ At)) gb ge L m vr vt vi wr)
        case atStart => exact ⟨0, P5, [], by omega, rfl, rfl, Sub.refl _, rowM_nil _ _, HHI.out⟩
        case round =>
          obtain ⟨k, P6, Ar, hk, rfl, rfl, hs6, hr6, hHk⟩ := hrel
          have hszf := sizes_flt gb ge (L.take k)
          obtain ⟨fl, hfl⟩ : ∃ fl, flt gb ge (L.take k) = fl := ⟨_, rfl⟩
          rw [hfl] at hr6 hszf ⊢
          obtain ⟨ra, rc, rfl⟩ := hr6.shape
          obtain ⟨p, hp⟩ : ∃ p, sizes fl = p := ⟨_, rfl⟩
          obtain ⟨tk, htk⟩ : ∃ t, tm0 fl = t := ⟨_, rfl⟩
          rw [hp] at hr6 hszf ⊢
          rw [htk]
          have HFL := Lib.hid hfl
          have HP := Lib.hid hp
          have HTK := Lib.hid htk
          have HR6 := Lib.hid hr6
          have HHK := Lib.hid hHk
          have HS6 := Lib.hid hs6
          have HKL := HLL.out
          clear hfl hp htk hr6 hHk hs6
          by_cases hlt : k < L.length
          · obtain ⟨gj, rfl⟩ : ∃ x, gk = x + 1 := ⟨gk - 1, by omega⟩
            have hko : k < out2.length := by rw [HO2.out]; omega
            obtain ⟨g3, off, cap, hvv, hcap, hbc⟩ := HB3.out.at_ hko
            rw [HO2.out] at hvv hcap
            simp only [Value.slice.injEq] at hvv
            obtain ⟨rfl, -, rfl⟩ := hvv
            have hxk : (out2[k]'hko).1 = L[k] := by have := HM2.out; subst this; simp
            obtain ⟨x, hxd⟩ : ∃ x, x = L[k] := ⟨_, rfl⟩
            obtain ⟨p2, hp2⟩ : ∃ p2, (out2[k]'hko).2 = p2 := ⟨_, rfl⟩
            have hbc6 := hbc.sub (HS5.out.trans HS6.out)
            have hc4 : ∀ (w' : World) (M : Mm), Hp w' P6 M → w'.cell? ⟨g3, off + k * 3, none⟩ = some (.int .i64 x.b) ∧ w'.cell? ⟨g3, off + k * 3 + 1, none⟩ = some (.int .i64 x.e) ∧ w'.cell? ⟨g3, off + k * 3 + 2, none⟩ = some p2 := fun w' M hh => by
              obtain ⟨-, c0, c1, c2, -⟩ := hh.use hbc6
              rw [hxk, ← hxd] at c0 c1
              rw [hp2] at c2
              exact ⟨c0, c1, c2⟩
            have hbv : Pers P6 (fun w => BtV w (.agg #[.int .i64 x.b, .int .i64 x.e, p2]) x) := hbc6.imp (fun w1 h => by
              obtain ⟨-, -, -, -, h5⟩ := h
              rw [hxd, ← hxk, ← hp2]
              exact ⟨_, rfl, h5⟩)
            obtain ⟨hxo, hxb⟩ := HOK.out x (by rw [hxd]; exact List.getElem_mem hlt)
            have hsk := sizes_take L k hlt
            rw [← hxd] at hsk
            have htkn := take_next L k hlt
            rw [← hxd] at htkn
            obtain ⟨sx, hsx⟩ : ∃ sx, szB x = sx := ⟨_, rfl⟩
            rw [hsx] at hsk
            have hsL := HSZ.out
            have b2 : p + sx ≤ 1048576 := by omega
            have k1 : (k : Int) < (n : Int) := by omega
            have k2 : (0 : Int) ≤ (k : Int) := by omega
            have hb0 := hxo.b0
            have hb1 := hxo.b1
            have hn64 := hxo.n64
            have hsk2 : Hid (Hp wr P6 (Ar ++ (Ax ++ (Adx ++ At)))) := HHK.out
            obtain ⟨y0, y1⟩ := HCL.out wr P6 (HHK.out.drop)
            obtain ⟨c0, c1, c2⟩ := hc4 wr _ HHK.out
            have HC4 := Lib.hid hc4
            have HBV := Lib.hid hbv
            have HXO := Lib.hid hxo
            have HXB := Lib.hid hxb
            have HTN := Lib.hid htkn
            have HSX := Lib.hid hsx
            clear hc4 hbv hxo hxb htkn hsx hsk hsL hbc hbc6 hxk hxd hp2 hszf hsk2
            have hcase : (¬ gb ≤ x.b) ∨ (gb ≤ x.b ∧ ¬ x.b < ge) ∨ (gb ≤ x.b ∧ x.b < ge) := by omega
            rcases hcase with q1 | ⟨q1, q2⟩ | ⟨q1, q2⟩
            · have hf2 : flt gb ge (L.take (k + 1)) = fl := by rw [HTN.out, flt_out _ _ _ _ (fun hh => q1 hh.1), HFL.out]
              have q3 : decide (gb ≤ x.b) = false := decide_eq_false q1
              have HF2 := Lib.hid hf2
              clear hf2
              go_wp2_with fail
              go_quiet (fail)
              have HH7 := Lib.hid (HHK.out.drewN nq)
              go_wp2_with fail
              go_roundg gj
              case measure => omega
              case rel => exact ⟨k + 1, P6, Ar, by omega, by simp, by rw [HF2.out, HTK.out], HS6.out, by rw [HF2.out, HP.out]; exact HR6.out, HH7.out⟩
            · have hf2 : flt gb ge (L.take (k + 1)) = fl := by rw [HTN.out, flt_out _ _ _ _ (fun hh => q2 hh.2), HFL.out]
              have q3 : decide (x.b < ge) = false := decide_eq_false q2
              have HF2 := Lib.hid hf2
              clear hf2
              go_wp2_with fail
              go_quiet (fail)
              have HH7 := Lib.hid (HHK.out.drewN nq)
              go_wp2_with fail
              go_roundg gj
              case measure => omega
              case rel => exact ⟨k + 1, P6, Ar, by omega, by simp, by rw [HF2.out, HTK.out], HS6.out, by rw [HF2.out, HP.out]; exact HR6.out, HH7.out⟩
            · have hf2 : flt gb ge (L.take (k + 1)) = fl ++ [x] := by rw [HTN.out, flt_in _ _ _ _ q1 q2, HFL.out]
              have HF2 := Lib.hid hf2
              clear hf2
              go_wp2_with fail
              go_quiet (fail)
              have HH7 := Lib.hid (HHK.out.drewN nq)
              obtain ⟨c0, c1, c2⟩ := HC4.out _ _ HH7.out
              go_wp2_with fail
              refine (rbatch_any x HXO.out HXB.out _ _ (HH7.out.use HBV.out)).mono ?_
              rintro e w8 ⟨⟨v8, rfl, ho8⟩, hb8⟩
              obtain ⟨P8, hs8, hH8, hp8⟩ := HH7.out.newBytes hb8 ho8
              have hbl : (batB x).length = sx := HSX.out
              obtain ⟨bva, bvc, rfl, hbvc⟩ := (hH8.use hp8).shape
              rw [hbl] at hp8 hbvc ⊢
              have HBL := Lib.hid hbl
              have H8 := Lib.hid hH8
              have HY8 := Lib.hid (hH8.use hp8)
              have HS8 := Lib.hid hs8
              clear ho8 hb8 hH8 hp8 hs8 hbl c0 c1 c2
              go_wp2_with (at_builtin; refine wpList_append_bytes_hp rfl _ _ rfl (.slice ra p rc) p (flatB fl) rfl H8.out HR6.out (.slice bva sx bvc) (batB x) rfl HY8.out (by rw [HBL.out]; omega) ?_)
              intro ga ca w9 A9 hr9 hH9
              rw [HBL.out] at hr9 ⊢
              have hH9' : Hp w9 P8 (A9 ++ (Ax ++ (Adx ++ At))) := hH9
              obtain ⟨-, c0, c1, c2, -⟩ : True ∧ w9.cell? ⟨g3, off + k * 3, none⟩ = some (.int .i64 x.b) ∧ w9.cell? ⟨g3, off + k * 3 + 1, none⟩ = some (.int .i64 x.e) ∧ w9.cell? ⟨g3, off + k * 3 + 2, none⟩ = some p2 ∧ True := by
                obtain ⟨c0, c1, c2⟩ := HC4.out w9 _ (hH9.weaken HS8.out)
                exact ⟨trivial, c0, c1, c2, trivial⟩
              have H9 := Lib.hid hH9'
              have HR9 := Lib.hid hr9
              clear hH9 hH9' hr9
              go_wp2_with fail
              refine (rtime_any x (by omega) _ _ (H9.out.use (HBV.out.sub HS8.out))).mono ?_
              rintro e w10 ⟨rfl, hb10⟩
              have H10 := Lib.hid (H9.out.below hb10 (Nat.le_refl _))
              clear hb10
              go_wp2_with fail
              go_roundg gj
              case measure => omega
              case rel => exact ⟨k + 1, P8, A9, by omega, by simp, by rw [HF2.out, tm0_snoc, HTK.out], HS6.out.trans HS8.out, by
                rw [HF2.out, flatB_app, sizes_app, HP.out, show sizes [x] = sx from by simp [sizes, HSX.out], show flatB [x] = batB x from by simp [flatB]]; exact HR9.out, H10.out⟩
          · have hkn : L.take k = L := List.take_of_length_le (by omega)
            have hflG : fl = G.l := by rw [← HFL.out, hkn]; exact HFLT.out
            have hr7 := HR6.out
            have hp7 := HP.out
            have htk7 := HTK.out
            rw [hflG] at hr7 hp7 htk7
            obtain ⟨P7, hs7, hH7, hp8⟩ := HHK.out.sealBytes hr7
            have hlenG : (flatB G.l).length = p := by rw [flatB_len]; exact hp7
            have hb7 := (hH7.use hp8).shape
            have hsub : ∀ y, y ∈ G.l → y ∈ L := fun y hy => by
              have h1 := (HOx.out.split HSP.out).2.2.2.2
              rw [h1]
              simp only [List.mem_append]
              exact .inr (.inl hy)
            have hstm : stm G.l = tk := (stm_tm0 G.l (fun y hy => HTM.out y (hsub y hy))).trans htk7
            have hpb : p ≤ 1048576 := by have := HSZ.out; rw [hkn] at hszf; omega
            have HLG := Lib.hid hlenG
            have HSTM := Lib.hid hstm
            have H7 := Lib.hid hH7
            have HP8 := Lib.hid hp8
            have HS7 := Lib.hid (HS6.out.trans hs7)
            have HS57 := Lib.hid (HS5.out.trans (HS6.out.trans hs7))
            clear hkn hflG hr7 hp7 htk7 hs7 hH7 hp8 hlenG hb7 hsub hstm hszf
            obtain ⟨y0, y1⟩ := HCL.out _ _ H7.out
            go_wp2_with fail
            rw [← HGB.out]
            refine (hraw_on ((HC3.out.sub HS57.out)) HMx.out HOx.out (HDx.out.sub HS57.out) HSP.out H7.out).mono ?_
            rintro e w8 ⟨v8, P9, rfl, hs9, hp9, hH9⟩
            obtain ⟨sa, sc, rfl, -⟩ := (hH9.use hp9).shape
            rw [HLG.out] at hp9 ⊢
            obtain ⟨y0, y1⟩ := HCL.out _ _ hH9
            have H9 := Lib.hid hH9
            have HP9 := Lib.hid hp9
            have HS9 := Lib.hid hs9
            clear hH9 hp9 hs9
            rw [HGB.out]
            go_wp2_with fail
            rw [← HGB.out]
            refine (htime_on HMx.out HOx.out HSP.out H9.out).mono ?_
            rintro e w10 ⟨rfl, hH10⟩
            rw [HSTM.out, HGB.out]
            obtain ⟨y0, y1⟩ := HCL.out _ _ hH10
            have H10 := Lib.hid hH10
            clear hH10
            go_wp2_with fail
            rw [← HGB.out]
            refine (hmarks_on HMx.out HOx.out HSP.out HSZ.out H10.out).mono ?_
            rintro e w11 ⟨v11, P11, bs, rfl, hs11, hp11, h6, hH11⟩
            obtain ⟨ma, mc, rfl, -⟩ := (hH11.use hp11).shape
            obtain ⟨bn, hbn⟩ : ∃ bn, bs.length = bn := ⟨_, rfl⟩
            rw [hbn] at h6 ⊢
            have h6' : ¬ (bn : Int) < 6 := by omega
            have hsb1 := hH11.use (HP9.out.sub hs11)
            have hsb2 := hH11.use ((HP8.out.sub HS9.out).sub hs11)
            have H11 := Lib.hid hH11
            have HB1 := Lib.hid hsb1
            have HB2 := Lib.hid hsb2
            have HS11 := Lib.hid (HS57.out.trans (HS9.out.trans hs11))
            rw [HGB.out]
            clear hH11 hp11 hsb1 hsb2 hs11 hbn
            go_wp2_with fail
            refine (samebytes_ok _ _ (flatB G.l) _ HB1.out HB2.out (by rw [HLG.out]; omega)).mono ?_
            rintro e w12 ⟨rfl, hb12⟩
            have H12 := Lib.hid (H11.out.below hb12 (Nat.le_refl _))
            clear hb12
            go_wp2_with fail
            go_roundg gi
            case measure => omega
            case rel => exact ⟨i + 1, _, by have := HI.out; omega, by simp, HS11.out, H12.out⟩
      · have HHI := Lib.hid hHi
        have HS5 := Lib.hid hs5
        have hpl := prsB_len L []
        have hLl := HLL.out
        have HPL := Lib.hid (show (prsB L []).length ≤ 20 from by simp at hpl; omega)
        clear hHi hs5 hpl
        go_wp2_with fail
        refine (hpairs_ok HMx.out HOx.out.W (by rw [HFE.out]; omega) HHI.out).mono ?_
        rintro e w5 ⟨v5, Ap, rfl, hp5, hH5⟩
        rw [HFE.out] at hp5
        obtain ⟨pa, pc, rfl⟩ := RowM.shape hp5
        obtain ⟨pn, hpn⟩ : ∃ pn, (prsB L []).length = pn := ⟨_, rfl⟩
        have hpcell : ∀ (j : Nat) (hj : j < (prsB L []).length) (w' : World), Hp w' P5 (Ap ++ (Ax ++ (Adx ++ At))) → ∃ g, pa = some ⟨g, 0, none⟩ ∧ pn ≤ pc ∧ w'.cell? ⟨g, j * 2, none⟩ = some (.int .i64 ((prsB L [])[j]).1) ∧ w'.cell? ⟨g, j * 2 + 1, none⟩ = some (.int .i64 ((prsB L [])[j]).2) := by
          intro j hj w' hh
          obtain ⟨g, c, h1, h2, h3, h4⟩ := PrsM.get hp5 hh hj
          rw [hpn] at h1 h2
          simp only [Value.slice.injEq] at h1
          obtain ⟨rfl, -, rfl⟩ := h1
          exact ⟨g, rfl, h2, h3, h4⟩
        have HPC := Lib.hid hpcell
        have HPN := Lib.hid hpn
        have H5 := Lib.hid hH5
        rw [hpn]
        clear hp5 hH5 hpn hpcell
        have hcells : ∀ (k : Nat) (hk : k < L.length) (w' : World) (M : Mm), Hp w' P5 M → ∃ g off, va = some ⟨g, off, none⟩ ∧ n ≤ vc ∧ w'.cell? ⟨g, off + k * 3, none⟩ = some (.int .i64 (L[k]).b) ∧ w'.cell? ⟨g, off + k * 3 + 1, none⟩ = some (.int .i64 (L[k]).e) := by
          intro k hk w' M hh
          have hko : k < out2.length := by rw [HO2.out]; omega
          obtain ⟨g3, off, cap, hvv, hcap, hbc⟩ := HB3.out.at_ hko
          rw [HO2.out] at hvv hcap
          simp only [Value.slice.injEq] at hvv
          obtain ⟨rfl, -, rfl⟩ := hvv
          have hxk : (out2[k]'hko).1 = L[k] := by have := HM2.out; subst this; simp
          obtain ⟨-, c0, c1, c2, -⟩ := hh.use (hbc.sub HS5.out)
          rw [hxk] at c0 c1
          exact ⟨g3, off, rfl, hcap, c0, c1⟩
        have HCE := Lib.hid hcells
        clear hcells
        go_wp2_with fail
        go_loopg [23, 24] L.length (fun m vn vi wr => ∃ k : Nat, k + m = L.length ∧ vi = .int .i64 k ∧ vn = .int .i64 ((prsB (L.take k) []).length) ∧ Hp wr P5 (Ap ++ (Ax ++ (Adx ++ At))))
        case atStart => exact ⟨0, by omega, rfl, rfl, H5.out⟩
        case round =>
          obtain ⟨k, hk, rfl, rfl, hHk⟩ := hrel
          obtain ⟨o, ho⟩ : ∃ o, (prsB (L.take k) []).length = o := ⟨_, rfl⟩
          rw [ho]
          by_cases hlt : k < L.length
          · obtain ⟨gj, rfl⟩ : ∃ x, gk = x + 1 := ⟨gk - 1, by omega⟩
            have hkn : k < n := by omega
            obtain ⟨g3, off, rfl, hcap, c0, c1⟩ := HCE.out k hlt _ _ hHk
            obtain ⟨xb, hxb⟩ : ∃ b, (L[k]).b = b := ⟨_, rfl⟩
            obtain ⟨xe, hxe⟩ : ∃ e, (L[k]).e = e := ⟨_, rfl⟩
            rw [hxb] at c0
            rw [hxe] at c1
            have k1 : (k : Int) < (n : Int) := by omega
            have k2 : (0 : Int) ≤ (k : Int) := by omega
            -- what is done where a pair is begun
            have hnew : prsB (L.take (k + 1)) [] = prsB (L.take k) [] ++ [(xe, xb)] → ∃ g, pa = some ⟨g, 0, none⟩ ∧ pn ≤ pc ∧ o < pn ∧ wr.cell? ⟨g, o * 2, none⟩ = some (.int .i64 xe) ∧ wr.cell? ⟨g, o * 2 + 1, none⟩ = some (.int .i64 xb) ∧ (prsB (L.take (k + 1)) []).length = o + 1 := by
              intro hh
              obtain ⟨h1, h2⟩ := prs_at L k _ _ hh
              simp only [ho] at h1 h2
              obtain ⟨g, e1, e2, e3, e4⟩ := HPC.out o h1 _ hHk
              rw [h2] at e3 e4
              exact ⟨g, e1, e2, by rw [← HPN.out]; exact h1, e3, e4, by rw [hh, List.length_append, ho]; rfl⟩
            have HHK := Lib.hid hHk
            have HO := Lib.hid ho
            have hpn20 : pn ≤ 20 := by rw [← HPN.out]; exact HPL.out
            rcases Nat.eq_zero_or_pos k with hk0 | hk0
            · subst hk0
              obtain ⟨g, rfl, hpc, hopn, d0, d1, hol⟩ := hnew (by rw [prs_first L hlt, hxb, hxe]; rfl)
              simp only [Nat.zero_mul, Nat.add_zero] at c0 c1
              have o3 : decide ((pn : Int) ≤ (o : Int)) = false := decide_eq_false (by omega)
              have o1 : (o : Int) < (pn : Int) := by omega
              have o2 : (0 : Int) ≤ (o : Int) := by omega
              have HOL := Lib.hid hol
              clear hHk ho hxb hxe hnew hol
              go_wp2_with fail
              go_quiet (fail)
              have HR0 := Lib.hid (HHK.out.drewN nq)
              go_wp2_with fail
              go_quiet (fail)
              have hr' := HR0.out.drewN nq
              rw [World.drewN_drewN] at hr'
              have HR := Lib.hid hr'
              clear hr'
              go_wp2_with fail
              go_roundg gj
              case measure => omega
              case rel => exact ⟨0 + 1, by omega, by simp, by rw [HOL.out]; simp, HR.out⟩
            · obtain ⟨j, hkj⟩ : ∃ j, k = j + 1 := ⟨k - 1, by omega⟩
              obtain ⟨g4, off4, he4, -, -, c4⟩ := HCE.out j (by omega) _ _ hHk
              cases he4
              obtain ⟨ye, hye⟩ : ∃ e, (L[j]).e = e := ⟨_, rfl⟩
              rw [hye] at c4
              have hnx := prs_next L j (by omega)
              simp only [← hkj] at hnx
              rw [hxb, hxe, hye] at hnx
              have w1 : IntKind.i64.wrap ((k : Int) - 1) = (j : Int) := by rw [show (k : Int) - 1 = (j : Int) from by omega]; exact IntWalk.i64_in _ (by omega)
              have k0 : ¬ (k : Int) = 0 := by omega
              have k5 : decide ((k : Int) = 0) = false := decide_eq_false k0
              have k6 : ¬ k = 0 := by omega
              have k7 : decide (k = 0) = false := decide_eq_false k6
              have k3 : (j : Int) < (n : Int) := by omega
              have k4 : (0 : Int) ≤ (j : Int) := by omega
              by_cases hey : ye = xe
              · rw [if_pos hey] at hnx
                have HNXT := Lib.hid hnx
                subst hey
                clear hHk ho hxb hxe hnew hnx hye hkj hk0
                go_wp2_with fail
                go_quiet (fail)
                have HR := Lib.hid (HHK.out.drewN nq)
                go_wp2_with fail
                go_roundg gj
                case measure => omega
                case rel => exact ⟨k + 1, by omega, by simp, by rw [HNXT.out, HO.out], HR.out⟩
              · rw [if_neg hey] at hnx
                obtain ⟨g, rfl, hpc, hopn, d0, d1, hol⟩ := hnew hnx
                have hey2 : ¬ xe = ye := fun h => hey h.symm
                have o1 : (o : Int) < (pn : Int) := by omega
                have o2 : (0 : Int) ≤ (o : Int) := by omega
                have HOL := Lib.hid hol
                have o3 : decide ((pn : Int) ≤ (o : Int)) = false := decide_eq_false (by omega)
                have hey3 : decide (xe = ye) = false := decide_eq_false hey2
                have hey4 : (xe != ye) = true := by simp [hey2]
                have k8 : ((k : Int) == 0) = false := by simp [k6]
                clear hHk ho hxb hxe hnew hol hnx hye hkj hk0
                go_wp2_with fail
                go_quiet (fail)
                have HR0 := Lib.hid (HHK.out.drewN nq)
                go_wp2_with fail
                go_quiet (fail)
                have hr' := HR0.out.drewN nq
                rw [World.drewN_drewN] at hr'
                have HR := Lib.hid hr'
                clear hr'
                go_wp2_with fail
                go_roundg gj
                case measure => omega
                case rel => exact ⟨k + 1, by omega, by simp, by rw [HOL.out]; simp, HR.out⟩
          · have htk : L.take k = L := List.take_of_length_le (by omega)
            rw [htk] at ho
            have hop : o = pn := ho.symm.trans HPN.out
            subst hop
            have HR := Lib.hid (hHk.perm (perm_mid Ap Ax (Adx ++ At)))
            clear hHk ho htk
            go_wp2_with fail
            refine (long_any b 9 (by decide) (by decide) _).mono ?_
            rintro e w' ⟨rfl, rfl⟩
            rw [HQB.out]
            go_wp2_with fail
            refine (hraw_none (HC3.out.sub HS5.out) HMx.out HOx.out.W (-1 - (qb : Int)) (fun p hp => by omega) HR.out).mono ?_
            rintro e w6 ⟨rfl, hH6⟩
            have H6 := Lib.hid hH6
            clear hH6
            go_wp2_with fail
            refine (htime_none (HC3.out.sub HS5.out) HMx.out HOx.out.W 549755813888 (fun p hp => by have h1 := HOx.out.low hp; have h2 := HE0.out; omega) H6.out).mono ?_
            rintro e w7 ⟨rfl, hH7⟩
            have hE7 := ((HC3.out.sub HS5.out).errs) _ hH7.agr
            have H7 := Lib.hid hH7
            have HE7 := Lib.hid hE7
            clear hH7 hE7
            go_wp2_with fail
            rw [← ev_some (errAt W) 6]
            refine (is_any HE7.out (101 + 6) (.inr (by omega)) 107).mono ?_
            rintro e w8 ⟨rfl, hb8⟩
            have hH8 := H7.out.below hb8 (Nat.le_refl _)
            have hE8 := ((HC3.out.sub HS5.out).errs) _ hH8.agr
            have H8 := Lib.hid hH8
            have HE8 := Lib.hid hE8
            clear hb8 hH8 hE8
            go_wp2_with fail
            refine (is_any HE8.out (101 + 6) (.inr (by omega)) 107).mono ?_
            rintro e w9 ⟨rfl, hb9⟩
            have HB9 := Lib.hid ((H8.out.below hb9 (Nat.le_refl _)).to_below (HS3.out.trans HS5.out))
            clear hb9
            go_wp2_with fail
            go_ret
            exact ⟨rfl, HB9.out⟩
end
end Go.Proofs.YtepmblomgmghcaaGreatDoor.Sg

/-! Cy -/
namespace Go.Proofs.YtepmblomgmghcaaGreatDoor.Sg
open Go.RowKit Er

def l12 : List Nat := [0, 1, 2, 3, 4, 5, 6, 7, 8, 9, 12, 14]
theorem l12_all : ∀ i, i < 10 ∨ i = 14 → i ∈ l12 := by
  intro i hi
  rcases hi with hi | rfl
  · have : ∀ j : Fin 10, j.val ∈ l12 := by decide
    exact this ⟨i, hi⟩
  · decide
theorem l19_all2 : ∀ i, i < 10 ∨ i = 14 → i ∈ List.range 19 := by intro i hi; rw [List.mem_range]; omega

theorem tab_of2 {rest : List (String × DataW Unit)} {W : World} (h : laidMet Tryz.prog (("math/bits.deBruijn32tab", Rows.laid_math_bits_deBruijn32tab) :: ("math/bits.deBruijn64tab", Rows.laid_math_bits_deBruijn64tab) :: ("internal/strconv.uint64pow10", Rows.laid_internal_strconv_uint64pow10) :: rest) W) :
    Lib.TabIs Tryz.prog W "internal/strconv.uint64pow10" .u64 Lib.pow10Tab ∧ laidMet Tryz.prog rest W := by
  have h2 := laidMet.tail (laidMet.tail h)
  refine ⟨?_, laidMet.tail h2⟩
  exact Lib.tabIs_of_head (zs := Lib.pow10Tab) (k := .u64) (g := 19) (t := 299) (e := 157) (n := 20) (by kernel_rfl) (by kernel_rfl) (by kernel_rfl) (by kernel_rfl) (by kernel_rfl) (by kernel_rfl) h2
theorem hlaid12 {W : World} (h : laidMet Tryz.prog Rows.hotSizesRow.laid W) (hsz : gmax ≤ W.heap.size) : Lib.TabIs Tryz.prog W "internal/strconv.uint64pow10" .u64 Lib.pow10Tab ∧ Errs l12 W (errAt W) W.heap.size := by
  obtain ⟨h1, h2⟩ := tab_of2 h
  exact ⟨h1, errs_of_laid l12 (by decide) h2 hsz⟩
theorem hlaid19 {W : World} (h : laidMet Tryz.prog Rows.hotReadsRow.laid W) (hsz : gmax ≤ W.heap.size) : Lib.TabIs Tryz.prog W "internal/strconv.uint64pow10" .u64 Lib.pow10Tab ∧ Errs (List.range 19) W (errAt W) W.heap.size := by
  obtain ⟨h1, h2⟩ := tab_of2 h
  exact ⟨h1, errs_of_laid (List.range 19) (by decide) h2 hsz⟩

end Go.Proofs.YtepmblomgmghcaaGreatDoor.Sg

/-! HotMarksRow -/
namespace Go.Proofs.YtepmblomgmghcaaGreatDoor.hotMarks
open Go.ChangeShapes Go.WideShapes Go.ChangeAt Go.RowKit
open Go.Proofs.YtepmblomgmghcaaGreatDoor.Sg
set_option linter.unusedVariables false
set_option maxRecDepth 100000 in
theorem contract (H : Type) (enc : TypeId × Value → H) (W : World) (base : Nat) (args : Array Value) (ds gs : List (DataW H)) (before : List MemPlace)
    (hval0 : ∀ (j : Nat) t v, Tryz.f9.params[j]? = some t → args[j]? = some v → Value.okWide Tryz.prog W .any base t v)
    (hW : DataW.Whole enc Tryz.prog Tryz.f9.params.toList Rows.hotMarksSpec.vars false W args.toList ds gs before) (hL : laidMetH Tryz.prog Rows.hotMarksRow.laid W) (hsh : W.ShapedOpen Tryz.prog) :
    Calls Tryz.prog 9 args W fun e W' => ∃ v, e = .returned v ∧ Rows.hotMarksSpec.post enc Tryz.prog Tryz.f9 false true false false W args v W' := by
  have hval : ∀ (j : Nat) t v, Tryz.f9.params[j]? = some t → args[j]? = some v → Value.okWide Tryz.prog W .any base t v := hval0
  have hW' := hW
  obtain ⟨p, q, hA0, hV, rfl, hfz, hnd⟩ := hW
  have hA : DataW.TrodAll enc Tryz.prog W 0 (fun _ => true) true Tryz.f9.params.toList args.toList ds p := hA0
  rw [Tryz.params9] at hA hval
  obtain ⟨v0, vs0, d0, ds0, p0, q0, hargs, rfl, rfl, h0, r0⟩ := trodAll_cons hA
  obtain ⟨v1, vs1, d1, ds1, p1, q1, rfl, rfl, rfl, h1, r1⟩ := trodAll_cons r0
  obtain ⟨v2, vs2, d2, ds2, p2, q2, rfl, rfl, rfl, h2, r2⟩ := trodAll_cons r1
  obtain ⟨rfl, rfl, rfl⟩ := trodAll_nil r2
  obtain rfl : args = #[v0, v1, v2] := by cases args; simp_all
  obtain ⟨rfl, rfl⟩ := trodVars_none hV
  obtain ⟨a0, len0, cap0, rfl⟩ := okWide_slice Tryz.underlying50 (hval 0 50 v0 rfl rfl)
  have k0 := h0
  have lt0 : ∀ x ∈ p0, x.block < W.heap.size := by obtain ⟨m, hm⟩ := k0; exact DataW.trod_lt m _ _ _ hm
  obtain ⟨z0, w0⟩ : ∃ zs, IsRow W a0 len0 cap0 zs := by
    obtain ⟨fuel, hf⟩ := h0
    rcases open_ints Tryz.underlying50 Tryz.underlying3 (by kernel_rfl) hf with ⟨hcs, _⟩ | ⟨x, l, c, zs, hcs, _, hl, hm, hz, _, hcell, hwz⟩
    · simp [Value.cells] at hcs
      obtain ⟨rfl, rfl, rfl⟩ := hcs
      exact ⟨[], .inl ⟨rfl, rfl, rfl, rfl⟩⟩
    · simp [Value.cells] at hcs
      obtain ⟨rfl, rfl, rfl⟩ := hcs
      exact ⟨zs, .inr ⟨_, rfl, hl, hm, by simpa using hz, hcell, hwz⟩⟩
  obtain ⟨a1, rfl, rfl, rfl, w1⟩ := open_int Tryz.underlying3 (hval 1 3 v1 rfl rfl) h1
  obtain ⟨a2, rfl, rfl, rfl, w2⟩ := open_int Tryz.underlying2 (hval 2 2 v2 rfl rfl) h2
  have hL0 := hL
  rw [MakeChecks.laidMetH_plain _ _ _ (by kernel_rfl)] at hL0
  obtain ⟨hT, hE⟩ := hlaid19 (W := W) hL0 (Er.gmax_le hsh)
  clear hA0 hval0
  refine (hotmarks_all a0 len0 cap0 z0 a1 a2 W w0 l19_all2 hE hT).mono fun e W' ⟨he, bel⟩ => ?_
  subst he
  exact ⟨_, rfl, _, _, _, [], _, [], hW', trodAll_mk1 (shut_bool Tryz.underlying4 _), (trodAll_cons_mk (Below.trod laidOut (by kernel_rfl) (of_decide_eq_true (by kernel_rfl)) k0 bel lt0) (trodAll_cons_mk (shut_int Tryz.underlying3 w1) (trodAll_cons_mk (shut_int Tryz.underlying2 w2) trodAll_mk0))), rfl, bel.frame _, fun h => by cases h⟩

set_option maxRecDepth 100000 in
theorem lifted (os : Os) (started : os.Started) (H : Type) (enc : TypeId × Value → H) (F : Stop.Interp) :
    ReturnsInHanded {} Tryz.checked os 9 .any ((OpenSpec.ofChange Rows.hotMarksSpec).preRow enc Tryz.prog Tryz.f9 Rows.hotMarksRow.domain false Rows.hotMarksRow.laid) (((OpenSpec.ofChange Rows.hotMarksSpec).at F).post enc Tryz.prog Tryz.f9 false true false false) := by
  obtain ⟨places, hx⟩ := reads os enc
  refine returnsInHanded_of_row (C := Tryz.checked) (s := OpenSpec.ofChange Rows.hotMarksSpec) own started (by kernel_rfl) Tryz.func9
    (witness_row_atRef (enc := enc) (C := Tryz.checked) false (World.doorLaid Tryz.prog 400 os) #[.slice none 0 0, .int .i64 0, .int .i64 0] rfl (by kernel_rfl) (by kernel_rfl) (by kernel_rfl)
      (OpenSpec.preRow_of_cond 8 hx (by kernel_rfl) (fun k hk => by cases hk) (by kernel_rfl) (door_met os _))) ?_
  intro W base args ds gs before hval hW _ _ _ hL hsh _
  exact contract H enc W base args ds gs before hval hW hL hsh

theorem said : Rows.HotMarksSaid :=
  OpenClaim.holds_of_cond 9 Tryz.f9 rfl rfl rfl rfl rfl rfl rfl ⟨rfl, rfl, rfl, rfl, rfl⟩ rfl rfl rfl rfl rfl (by kernel_rfl) Tryz.func9 closed
    (of_decide_eq_true (by kernel_rfl)) (by unfold Func.isWrapper; rw [if_neg (of_decide_eq_false (by kernel_rfl))]; exact ⟨rfl, rfl⟩)
    (fun os started H enc _ F => by rw [OpenClaim.pre_eq_preRow]; exact lifted os started H enc F)

theorem card : Rows.HotMarksCardSaid :=
  Claim7.holds_tied_plain_at .later [] _ _ _ _ said (fun _ h => by cases h) (by kernel_rfl) (fun _ h => by cases h) hotMarks_row_tie rfl ⟨rfl, rfl⟩ (by kernel_rfl) rfl plain (by kernel_rfl)

#print axioms card
end Go.Proofs.YtepmblomgmghcaaGreatDoor.hotMarks
