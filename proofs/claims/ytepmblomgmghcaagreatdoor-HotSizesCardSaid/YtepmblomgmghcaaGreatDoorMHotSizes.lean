/- cordwoodlaw10.HotSizes answers true for every input. The table of powers and the errors out of the lists of chapter 10's rows. The statement HotSizes of chapter 10 holds for every input: the call returns true and leaves its arguments as they were. -/
import Derived.Test.YtepmblomgmghcaaGreatDoorMl
import Derived.Test.YtepmblomgmghcaaGreatDoorMi
import Derived.Test.YtepmblomgmghcaaGreatDoorMe
import Derived.Test.YtepmblomgmghcaaGreatDoorMf
import Derived.Test.YtepmblomgmghcaaGreatDoorRows
import Derived.Test.YtepmblomgmghcaaGreatDoorCards
import Derived.Test.YtepmblomgmghcaaGreatDoorTie
import Derived.Stop.LaidErr
import Derived.ProofKit
import Derived.OpenShut
import Derived.LaidMore
import Derived.Deep.DeepWitnessRowRef

/-! Ja -/
namespace Go.Proofs.YtepmblomgmghcaaGreatDoor.Sg
open Go.RowKit Er Go.Maps

theorem perm4 (A B C D E : Mm) : List.Perm (A ++ (B ++ (C ++ (D ++ E)))) (C ++ (D ++ (A ++ (B ++ E)))) := by
  have := perm_mid (A ++ B) (C ++ D) E
  simpa [List.append_assoc] using this
theorem row_n {P : Pm} {F : Mm} {w : World} (hH : Hp w P F) (a : Option Addr) (xs : List Int) (c n : Nat) (hn : xs.length = n) (hr : Pers P (fun w => IntsR w a xs)) (every : Nat) (he : every ≤ 1000000) (hx : n ≤ 1000000) (base : Int) (h0 : 0 ≤ base) (h1 : base ≤ 1099511627776) :
    Calls Tryz.prog 29 #[.int .i64 base, .slice a n c, .int .i64 every] w fun e w' => ∃ v P' out, e = .returned v ∧ Sub P P' ∧ out.map (·.1) = rowGo every xs 0 base ∧ BtsP P' v out ∧ Hp w' P' F := by
  subst hn
  exact row_p hH a xs c hr every he hx base h0 h1
theorem sized20 (every : Nat) (xs : List Int) (base : Nat) (hb : base ≤ 1073741824) (hx : xs.length ≤ 20) : sizes (rowGo every xs 0 base) ≤ 1048576 := by
  exact (row20b every xs base hb hx).2.2.1

section
variable {S : List Nat} {E : Nat → Addr} {B : Nat} {P : Pm} {F : Mm} {w : World}

/-- What holds at the head of HotSizes' loop. -/
def JaRel (P : Pm) (M : Mm) (n m : Nat) (vi : Value) (w : World) : Prop := ∃ (k : Nat) (P' : Pm), k + m = n ∧ vi = .int .i64 k ∧ Sub P P' ∧ Hp w P' M

set_option maxRecDepth 100000 in
set_option maxHeartbeats 4000000 in
theorem hotsizes_all (a0 : Option Addr) (len0 cap0 : Nat) (z0 : List Int) (a b : Int) (W : World) (h : IsRow W a0 len0 cap0 z0) {S : List Nat} (hS : ∀ i, i < 10 ∨ i = 14 → i ∈ S) (hE : Errs S W (errAt W) W.heap.size)
    (hT : Lib.TabIs Tryz.prog W "internal/strconv.uint64pow10" .u64 Lib.pow10Tab) :
    Calls Tryz.prog 5 #[.slice a0 len0 cap0, .int .i64 a, .int .i64 b] W fun e W' => e = .returned (.bool true) ∧ Below W.heap.size W W' := by
  have C := ctx_start hS hE hT
  obtain ⟨xs, rfl, hC⟩ := isRow_C h
  have hCp := ints_pers hC
  have H0 : Hid (Hp W (Pm.start W) []) := Hp.start W
  clear h hC hE hT
  have HCP := Lib.hid hCp
  clear hCp
  by_cases hlen : 20 < xs.length
  · go_enter Tryz.func5, Tryz.ntmps5
    go_wp2_with fail
    refine (first10_ok C H0.out).mono ?_
    rintro e w1 ⟨rfl, P1, hs1, hH1⟩
    have HB := Lib.hid (hH1.to_below hs1)
    clear hH1 hs1
    go_wp2_with fail
    go_ret
    exact ⟨rfl, HB.out⟩
  · have hl1 : xs.length ≤ 20 := by omega
    obtain ⟨hch, hok, -⟩ := row20b 3 xs 0 (by omega) hl1
    have hsz := sized20 3 xs 0 (by omega) hl1
    obtain ⟨L, hLd⟩ : ∃ L, L = rowGo 3 xs 0 ((0 : Nat) : Int) := ⟨_, rfl⟩
    have hll : L.length = xs.length := by rw [hLd]; exact row_len 3 xs 0 _
    rw [← hLd] at hch hok hsz
    obtain ⟨n, hn⟩ : ∃ n, xs.length = n := ⟨_, rfl⟩
    rw [hn] at hl1 hll
    obtain ⟨qa, hqa⟩ : ∃ q : Nat, a % ((500 : Nat) : Int) = (q : Int) := ⟨(a % 500).toNat, by omega⟩
    obtain ⟨qb, hqb⟩ : ∃ q : Nat, b % ((500 : Nat) : Int) = (q : Int) := ⟨(b % 500).toNat, by omega⟩
    have hqa5 : qa < 500 := by omega
    have hqb5 : qb < 500 := by omega
    have HQA := Lib.hid hqa
    have HQB := Lib.hid hqb
    have HLD := Lib.hid hLd
    have HCH := Lib.hid hch
    have HOK := Lib.hid hok
    have HSZ := Lib.hid hsz
    have HLL := Lib.hid hll
    have HNX := Lib.hid hn
    rw [hn]
    clear hlen hLd hch hok hsz hll hn hqa hqb
    go_enter Tryz.func5, Tryz.ntmps5
    go_wp2_with fail
    refine (first10_ok C H0.out).mono ?_
    rintro e w1 ⟨rfl, P1, hs1, hH1⟩
    have H1 := Lib.hid hH1
    have HS1 := Lib.hid hs1
    clear hH1 hs1
    go_wp2_with fail
    refine (row_n H1.out a0 xs cap0 n HNX.out (HCP.out.sub HS1.out) 3 (by decide) (by omega) 0 (by decide) (by decide)).mono ?_
    rintro e w2 ⟨v2, P2, out2, rfl, hs2, hm2, hb2, hH2⟩
    have hm2' : out2.map (·.1) = L := hm2.trans HLD.out.symm
    have hol : out2.length = n := by have := congrArg List.length hm2'; rw [List.length_map, HLL.out] at this; exact this
    have H2 := Lib.hid hH2
    have HB2 := Lib.hid hb2
    have HM2 := Lib.hid hm2'
    have HO2 := Lib.hid hol
    have HS2 := Lib.hid (HS1.out.trans hs2)
    have HC2 := Lib.hid (C.sub (HS1.out.trans hs2))
    clear hm2 hs2 hb2 hH2 hm2' hol
    obtain ⟨va, vc, hva, hvc⟩ := HB2.out.shape
    rw [HO2.out] at hva hvc
    subst hva
    go_wp2_with fail
    refine (number_any a 500 (by omega) (by omega) _).mono ?_
    rintro e w' ⟨rfl, rfl⟩
    rw [HQA.out]
    go_wp2_with fail
    rw [show (qa : Int) + 1 = ((qa + 1 : Nat) : Int) from rfl]
    refine (made10_ok HC2.out (qa + 1) (by omega) (by omega) 0 (by decide) _ out2 HB2.out L HM2.out HCH.out HOK.out HSZ.out H2.out).mono ?_
    rintro e w3 ⟨dx, hx, P3, Ax, Adx, Dx, Hx, rfl, hs3, hMx, hDx, hOx, -, -, -, -, -, -, -, hnx, hH3⟩
    have H3 := Lib.hid hH3
    have HS3 := Lib.hid hs3
    have HMx := Lib.hid hMx
    have HDx := Lib.hid hDx
    have HOx := Lib.hid hOx
    have HNx := Lib.hid hnx
    have HC3 := Lib.hid (HC2.out.sub hs3)
    have HB3 := Lib.hid (HB2.out.sub hs3)
    clear hH3 hs3 hMx hDx hOx hnx
    go_wp2_with fail
    refine (number_any b 500 (by omega) (by omega) _).mono ?_
    rintro e w' ⟨rfl, rfl⟩
    rw [HQB.out]
    go_wp2_with fail
    rw [show (qb : Int) + 1 = ((qb + 1 : Nat) : Int) from rfl]
    refine (made10_ok HC3.out (qb + 1) (by omega) (by omega) 0 (by decide) _ out2 HB3.out L HM2.out HCH.out HOK.out HSZ.out H3.out).mono ?_
    rintro e w4 ⟨dy, hy, P4, Ay, Ady, Dy, Hy, rfl, hs4, hMy, hDy, hOy, -, -, -, -, -, -, -, hny, hH4⟩
    have hex : Hx.end_ = endOf ((0 : Nat) : Int) L := HOx.out.hend HNx.out
    have hey : Hy.end_ = endOf ((0 : Nat) : Int) L := hOy.hend hny
    obtain ⟨en, hen⟩ : ∃ en, endOf ((0 : Nat) : Int) L = en := ⟨_, rfl⟩
    rw [hen] at hex hey
    have HEx := Lib.hid hex
    have HEy := Lib.hid hey
    have H4 := Lib.hid hH4
    have HMy := Lib.hid hMy
    have HDy := Lib.hid hDy
    have HOy := Lib.hid hOy
    have HS4 := Lib.hid (HS2.out.trans (HS3.out.trans hs4))
    have HC4 := Lib.hid (HC3.out.sub hs4)
    have HB4 := Lib.hid (HB3.out.sub hs4)
    have HDx4 := Lib.hid (HDx.out.sub hs4)
    clear hH4 hs4 hMy hDy hOy hny hex hey hen
    go_wp2_with fail
    refine (hend_ok HMx.out HOx.out.W (H4.out.perm (perm4 Ay Ady Ax Adx []))).mono ?_
    rintro e w5 ⟨rfl, hH5⟩
    rw [HEx.out]
    have H5 := Lib.hid (hH5.perm (perm4 Ay Ady Ax Adx []).symm)
    clear hH5
    go_wp2_with fail
    refine (hend_ok HMy.out HOy.out.W H5.out).mono ?_
    rintro e w6 ⟨rfl, hH6⟩
    rw [HEy.out]
    have H6 := Lib.hid hH6
    clear hH6
    go_wp2_with fail
    go_loopg [13] n (fun m vi wr => JaRel P4 (Ay ++ (Ady ++ (Ax ++ (Adx ++ [])))) n m vi wr)
    case atStart => exact ⟨0, P4, by omega, rfl, Sub.refl _, H6.out⟩
    case round =>
      obtain ⟨k, P5, hk, rfl, hs5, hHr⟩ := hrel
      by_cases hlt : k < n
      · obtain ⟨gj, rfl⟩ : ∃ x, gk = x + 1 := ⟨gk - 1, by omega⟩
        have hko : k < out2.length := by rw [HO2.out]; exact hlt
        have hkL : k < L.length := by rw [HLL.out]; exact hlt
        obtain ⟨g, off, cap, hvv, hcap, hbc⟩ := HB4.out.at_ hko
        rw [HO2.out] at hvv hcap
        simp only [Value.slice.injEq] at hvv
        obtain ⟨rfl, -, rfl⟩ := hvv
        have hxk : (out2[k]'hko).1 = L[k] := by have := HM2.out; subst this; simp
        obtain ⟨x, hxd⟩ : ∃ x, x = L[k] := ⟨_, rfl⟩
        obtain ⟨-, c0, -, -, -⟩ := hHr.use (hbc.sub hs5)
        rw [hxk, ← hxd] at c0
        have hxm : x ∈ L := by rw [hxd]; exact List.getElem_mem hkL
        have HXO := Lib.hid (HOK.out x hxm).1
        have HXM := Lib.hid hxm
        have HBC := Lib.hid hbc
        have HXD := Lib.hid (show (out2[k]'hko).1 = x from hxk.trans hxd.symm)
        have HR := Lib.hid hHr
        have HS5 := Lib.hid hs5
        have j1 : (k : Int) < (n : Int) := by omega
        have j2 : (0 : Int) ≤ (k : Int) := by omega
        clear hHr hxk hxd hxm hbc hs5
        go_wp2_with fail
        refine (hread_one (HC4.out.sub HS5.out) HMx.out HOx.out (HDx4.out.sub HS5.out) x HXM.out (HR.out.perm (perm4 Ay Ady Ax Adx []))).mono ?_
        rintro e w7 ⟨v7, p7, P7, rfl, hs7, hp7, hb7, hH7⟩
        obtain ⟨-, c0, -, -, -⟩ := hH7.use (HBC.out.sub (HS5.out.trans hs7))
        rw [HXD.out] at c0
        have H7 := Lib.hid (hH7.perm (perm4 Ay Ady Ax Adx []).symm)
        have HS7 := Lib.hid (HS5.out.trans hs7)
        have HB7 := Lib.hid hb7
        have HP7 := Lib.hid hp7
        clear hH7 hs7 hb7 hp7
        go_wp2_with fail
        refine (hread_one (HC4.out.sub HS7.out) HMy.out HOy.out (HDy.out.sub HS7.out) x HXM.out H7.out).mono ?_
        rintro e w8 ⟨v8, p8, P8, rfl, hs8, hp8, hb8, hH8⟩
        have r7 := hH8.use (HB7.out.sub hs8).read
        have r8 := hH8.use hb8.read
        simp only [List.map_cons, List.map_nil, HP7.out, hp8] at r7 r8
        obtain ⟨ya, yc, hy7, -⟩ := r7.shape
        obtain ⟨za, zc, hz8, -⟩ := r8.shape
        subst hy7 hz8
        have H8 := Lib.hid hH8
        have HS8 := Lib.hid (HS7.out.trans hs8)
        have R7 := Lib.hid r7
        have R8 := Lib.hid r8
        clear hH8 hs8 hp8 hb8 r7 r8 c0
        simp only [List.length_cons, List.length_nil, Nat.zero_add] at R7 R8 ⊢
        go_wp2_with fail
        refine (samebatches_ok R7.out R8.out (by simp) (fun y hy => by rw [List.mem_singleton.1 hy]; exact HXO.out.sm)).mono ?_
        rintro e w9 ⟨rfl, hb9⟩
        have H9 := Lib.hid (H8.out.below hb9 (Nat.le_refl _))
        clear hb9
        go_wp2_with fail
        go_roundg gj
        case measure => omega
        case rel => exact ⟨k + 1, P8, by omega, by simp, HS8.out, H9.out⟩
      · have hkn : k = n := by omega
        have HR := Lib.hid hHr
        have HS5 := Lib.hid hs5
        have hfx : (Hx.L.map (·.2.l)).flatten = L := HOx.out.fl
        have hfy : (Hy.L.map (·.2.l)).flatten = L := HOy.out.fl
        have HFX := Lib.hid hfx
        have HFY := Lib.hid hfy
        clear hHr hs5 hkn hfx hfy
        go_wp2_with fail
        refine (hpairs_ok HMx.out HOx.out.W (by rw [HFX.out, HLL.out]; omega) (HR.out.perm (perm4 Ay Ady Ax Adx []))).mono ?_
        rintro e w7 ⟨v7, Ap7, rfl, hp7, hH7⟩
        rw [HFX.out] at hp7
        have hH7' : Hp w7 P5 (Ay ++ (Ady ++ (Ap7 ++ (Ax ++ (Adx ++ []))))) := by
          have := hH7.perm (perm4 (Ap7 ++ Ax) Adx Ay Ady [] |> fun h => by simpa [List.append_assoc] using h)
          simpa [List.append_assoc] using this
        have H7 := Lib.hid hH7'
        have HP7 := Lib.hid hp7
        clear hH7 hH7' hp7
        go_wp2_with fail
        refine (hpairs_ok HMy.out HOy.out.W (by rw [HFY.out, HLL.out]; omega) H7.out).mono ?_
        rintro e w8 ⟨v8, Ap8, rfl, hp8, hH8⟩
        rw [HFY.out] at hp8
        have r8 := hp8.read hH8
        have hH8' : Hp w8 P5 (Ap7 ++ (Ap8 ++ (Ay ++ (Ady ++ (Ax ++ (Adx ++ [])))))) := by
          have := perm_mid (Ap8 ++ (Ay ++ Ady)) Ap7 (Ax ++ (Adx ++ []))
          exact hH8.perm (by simpa [List.append_assoc] using this)
        have r7 := HP7.out.read hH8'
        obtain ⟨pa, pc, hpv7⟩ := r7.1
        obtain ⟨pb, pd, hpv8⟩ := r8.1
        subst hpv7 hpv8
        have hpl := prsB_len L []
        have H8 := Lib.hid hH8'
        have R7 := Lib.hid r7
        have R8 := Lib.hid r8
        have HPL : Hid ((prsB L []).length ≤ 1000000000) := by show _ ≤ _; rw [HLL.out] at hpl; simp at hpl; omega
        clear hH8 hH8' r7 r8 hp8 hpl
        go_wp2_with fail
        refine (samepairs_ok R7.out R8.out HPL.out).mono ?_
        rintro e w9 ⟨rfl, hb9⟩
        have HB9 := Lib.hid ((H8.out.below hb9 (Nat.le_refl _)).to_below (HS4.out.trans HS5.out))
        clear hb9
        go_wp2_with fail
        go_ret
        exact ⟨rfl, HB9.out⟩
end
end Go.Proofs.YtepmblomgmghcaaGreatDoor.Sg

/-! Cy -/
namespace Go.Proofs.YtepmblomgmghcaaGreatDoor.Sg
open Go.RowKit Er

def l12 : List Nat := [0, 1, 2, 3, 4, 5, 6, 7, 8, 9, 12, 14]
theorem l12_all : ∀ i, i < 10 ∨ i = 14 → i ∈ l12 := by
  intro i hi
  rcases hi with hi | rfl
  · have : ∀ j : Fin 10, j.val ∈ l12 := by decide
    exact this ⟨i, hi⟩
  · decide
theorem l19_all2 : ∀ i, i < 10 ∨ i = 14 → i ∈ List.range 19 := by intro i hi; rw [List.mem_range]; omega

theorem tab_of2 {rest : List (String × DataW Unit)} {W : World} (h : laidMet Tryz.prog (("math/bits.deBruijn32tab", Rows.laid_math_bits_deBruijn32tab) :: ("math/bits.deBruijn64tab", Rows.laid_math_bits_deBruijn64tab) :: ("internal/strconv.uint64pow10", Rows.laid_internal_strconv_uint64pow10) :: rest) W) :
    Lib.TabIs Tryz.prog W "internal/strconv.uint64pow10" .u64 Lib.pow10Tab ∧ laidMet Tryz.prog rest W := by
  have h2 := laidMet.tail (laidMet.tail h)
  refine ⟨?_, laidMet.tail h2⟩
  exact Lib.tabIs_of_head (zs := Lib.pow10Tab) (k := .u64) (g := 19) (t := 299) (e := 157) (n := 20) (by kernel_rfl) (by kernel_rfl) (by kernel_rfl) (by kernel_rfl) (by kernel_rfl) (by kernel_rfl) h2
theorem hlaid12 {W : World} (h : laidMet Tryz.prog Rows.hotSizesRow.laid W) (hsz : gmax ≤ W.heap.size) : Lib.TabIs Tryz.prog W "internal/strconv.uint64pow10" .u64 Lib.pow10Tab ∧ Errs l12 W (errAt W) W.heap.size := by
  obtain ⟨h1, h2⟩ := tab_of2 h
  exact ⟨h1, errs_of_laid l12 (by decide) h2 hsz⟩
theorem hlaid19 {W : World} (h : laidMet Tryz.prog Rows.hotReadsRow.laid W) (hsz : gmax ≤ W.heap.size) : Lib.TabIs Tryz.prog W "internal/strconv.uint64pow10" .u64 Lib.pow10Tab ∧ Errs (List.range 19) W (errAt W) W.heap.size := by
  obtain ⟨h1, h2⟩ := tab_of2 h
  exact ⟨h1, errs_of_laid (List.range 19) (by decide) h2 hsz⟩

end Go.Proofs.YtepmblomgmghcaaGreatDoor.Sg

/-! HotSizesRow -/
namespace Go.Proofs.YtepmblomgmghcaaGreatDoor.hotSizes
open Go.ChangeShapes Go.WideShapes Go.ChangeAt Go.RowKit
open Go.Proofs.YtepmblomgmghcaaGreatDoor.Sg
set_option linter.unusedVariables false

theorem own : ownKnob Tryz.prog.godebug = none := by kernel_rfl
theorem laidOut : laidOutB Tryz.prog = true := by kernel_rfl

theorem door_met (os : Os) (args : Array Value) : laidMetH Tryz.prog Rows.hotSizesRow.laid ((World.doorLaid Tryz.prog 400 os).forCall (fun _ _ => 0) ⟨#[], args, []⟩).memory :=
  laidMetH_of_parts3 (fuel := 8) (laidMet_of_run' 8 (by kernel_rfl) (by kernel_rfl)) (by kernel_rfl) (by kernel_rfl)

theorem reads (os : Os) {H : Type} (enc : TypeId × Value → H) : ∃ places, DataW.whole enc Tryz.prog ((World.doorLaid Tryz.prog 400 os).forCall (fun _ _ => 0) ⟨#[], #[.slice none 0 0, .int .i64 0, .int .i64 0], []⟩).memory Tryz.f5.params.toList Rows.hotSizesSpec.vars false (#[.slice none 0 0, .int .i64 0, .int .i64 0] : Array Value).toList 8 = some ([.nil, .lit (.int .i64 0), .lit (.int .i64 0)], [], places) :=
  ⟨[], by kernel_rfl⟩

set_option maxRecDepth 100000 in
theorem contract (H : Type) (enc : TypeId × Value → H) (W : World) (base : Nat) (args : Array Value) (ds gs : List (DataW H)) (before : List MemPlace)
    (hval0 : ∀ (j : Nat) t v, Tryz.f5.params[j]? = some t → args[j]? = some v → Value.okWide Tryz.prog W .any base t v)
    (hW : DataW.Whole enc Tryz.prog Tryz.f5.params.toList Rows.hotSizesSpec.vars false W args.toList ds gs before) (hL : laidMetH Tryz.prog Rows.hotSizesRow.laid W) (hsh : W.ShapedOpen Tryz.prog) :
    Calls Tryz.prog 5 args W fun e W' => ∃ v, e = .returned v ∧ Rows.hotSizesSpec.post enc Tryz.prog Tryz.f5 false true false false W args v W' := by
  have hval : ∀ (j : Nat) t v, Tryz.f5.params[j]? = some t → args[j]? = some v → Value.okWide Tryz.prog W .any base t v := hval0
  have hW' := hW
  obtain ⟨p, q, hA0, hV, rfl, hfz, hnd⟩ := hW
  have hA : DataW.TrodAll enc Tryz.prog W 0 (fun _ => true) true Tryz.f5.params.toList args.toList ds p := hA0
  rw [Tryz.params5] at hA hval
  obtain ⟨v0, vs0, d0, ds0, p0, q0, hargs, rfl, rfl, h0, r0⟩ := trodAll_cons hA
  obtain ⟨v1, vs1, d1, ds1, p1, q1, rfl, rfl, rfl, h1, r1⟩ := trodAll_cons r0
  obtain ⟨v2, vs2, d2, ds2, p2, q2, rfl, rfl, rfl, h2, r2⟩ := trodAll_cons r1
  obtain ⟨rfl, rfl, rfl⟩ := trodAll_nil r2
  obtain rfl : args = #[v0, v1, v2] := by cases args; simp_all
  obtain ⟨rfl, rfl⟩ := trodVars_none hV
  obtain ⟨a0, len0, cap0, rfl⟩ := okWide_slice Tryz.underlying50 (hval 0 50 v0 rfl rfl)
  have k0 := h0
  have lt0 : ∀ x ∈ p0, x.block < W.heap.size := by obtain ⟨m, hm⟩ := k0; exact DataW.trod_lt m _ _ _ hm
  obtain ⟨z0, w0⟩ : ∃ zs, IsRow W a0 len0 cap0 zs := by
    obtain ⟨fuel, hf⟩ := h0
    rcases open_ints Tryz.underlying50 Tryz.underlying3 (by kernel_rfl) hf with ⟨hcs, _⟩ | ⟨x, l, c, zs, hcs, _, hl, hm, hz, _, hcell, hwz⟩
    · simp [Value.cells] at hcs
      obtain ⟨rfl, rfl, rfl⟩ := hcs
      exact ⟨[], .inl ⟨rfl, rfl, rfl, rfl⟩⟩
    · simp [Value.cells] at hcs
      obtain ⟨rfl, rfl, rfl⟩ := hcs
      exact ⟨zs, .inr ⟨_, rfl, hl, hm, by simpa using hz, hcell, hwz⟩⟩
  obtain ⟨a1, rfl, rfl, rfl, w1⟩ := open_int Tryz.underlying3 (hval 1 3 v1 rfl rfl) h1
  obtain ⟨a2, rfl, rfl, rfl, w2⟩ := open_int Tryz.underlying3 (hval 2 3 v2 rfl rfl) h2
  have hL0 := hL
  rw [MakeChecks.laidMetH_plain _ _ _ (by kernel_rfl)] at hL0
  obtain ⟨hT, hE⟩ := hlaid12 (W := W) hL0 (Er.gmax_le hsh)
  clear hA0 hval0
  refine (hotsizes_all a0 len0 cap0 z0 a1 a2 W w0 l12_all hE hT).mono fun e W' ⟨he, bel⟩ => ?_
  subst he
  exact ⟨_, rfl, _, _, _, [], _, [], hW', trodAll_mk1 (shut_bool Tryz.underlying4 _), (trodAll_cons_mk (Below.trod laidOut (by kernel_rfl) (of_decide_eq_true (by kernel_rfl)) k0 bel lt0) (trodAll_cons_mk (shut_int Tryz.underlying3 w1) (trodAll_cons_mk (shut_int Tryz.underlying3 w2) trodAll_mk0))), rfl, bel.frame _, fun h => by cases h⟩

set_option maxRecDepth 100000 in
theorem lifted (os : Os) (started : os.Started) (H : Type) (enc : TypeId × Value → H) (F : Stop.Interp) :
    ReturnsInHanded {} Tryz.checked os 5 .any ((OpenSpec.ofChange Rows.hotSizesSpec).preRow enc Tryz.prog Tryz.f5 Rows.hotSizesRow.domain false Rows.hotSizesRow.laid) (((OpenSpec.ofChange Rows.hotSizesSpec).at F).post enc Tryz.prog Tryz.f5 false true false false) := by
  obtain ⟨places, hx⟩ := reads os enc
  refine returnsInHanded_of_row (C := Tryz.checked) (s := OpenSpec.ofChange Rows.hotSizesSpec) own started (by kernel_rfl) Tryz.func5
    (witness_row_atRef (enc := enc) (C := Tryz.checked) false (World.doorLaid Tryz.prog 400 os) #[.slice none 0 0, .int .i64 0, .int .i64 0] rfl (by kernel_rfl) (by kernel_rfl) (by kernel_rfl)
      (OpenSpec.preRow_of_cond 8 hx (by kernel_rfl) (fun k hk => by cases hk) (by kernel_rfl) (door_met os _))) ?_
  intro W base args ds gs before hval hW _ _ _ hL hsh _
  exact contract H enc W base args ds gs before hval hW hL hsh

theorem hunf : Tryz.prog.unfollowed 5 = true := by kernel_rfl
theorem hinp : Tryz.prog.inPlace 5 = Rows.hotSizesRow.inPlace := by kernel_rfl
theorem hnam : Tryz.prog.varsNamed 5 = Rows.hotSizesRow.named := by kernel_rfl
theorem hrec : Tryz.prog.recurses 5 = true := by unfold Program.recurses; rw [hunf]; rfl
theorem closed : joinedFacts Tryz.prog 5 Tryz.f5 (OpenSpec.ofChange Rows.hotSizesSpec).bare Rows.hotSizesRow = true := by unfold joinedFacts; rw [hinp, hunf, hrec, hnam]; kernel_rfl

theorem said : Rows.HotSizesSaid :=
  OpenClaim.holds_of_cond 5 Tryz.f5 rfl rfl rfl rfl rfl rfl rfl ⟨rfl, rfl, rfl, rfl, rfl⟩ rfl rfl rfl rfl rfl (by kernel_rfl) Tryz.func5 closed
    (of_decide_eq_true (by kernel_rfl)) (by unfold Func.isWrapper; rw [if_neg (of_decide_eq_false (by kernel_rfl))]; exact ⟨rfl, rfl⟩)
    (fun os started H enc _ F => by rw [OpenClaim.pre_eq_preRow]; exact lifted os started H enc F)

theorem plain (f : FuncId) (fn : Func) (hf : Tryz.pinned.checked.prog.funcNamed "cordwood/cordwoodlaw10.HotSizes" = some f) (hfn : Tryz.pinned.checked.prog.funcs[f]? = some fn) :
    true = Tryz.pinned.checked.prog.looks [] ∧ ∀ (j : Nat) t, fn.params[j]? = some t → Tryz.pinned.checked.prog.wantsStandIn t = false := by
  obtain rfl : f = 5 := Option.some.inj ((show Tryz.prog.funcNamed "cordwood/cordwoodlaw10.HotSizes" = some 5 by kernel_rfl).symm.trans hf) |>.symm
  obtain rfl : fn = Tryz.f5 := (Option.some.inj (Tryz.func5.symm.trans hfn)).symm
  refine ⟨by kernel_rfl, fun j t ht => ?_⟩
  rw [Tryz.params5] at ht
  have hm := Array.mem_of_getElem? ht
  have ht2 : t = 50 ∨ t = 3 := by simpa [or_assoc] using hm
  rcases ht2 with rfl | rfl
  · exact (show Tryz.prog.wantsStandIn 50 = false by kernel_rfl)
  · exact (show Tryz.prog.wantsStandIn 3 = false by kernel_rfl)

/-- THE CARD -/
theorem card : Rows.HotSizesCardSaid :=
  Claim7.holds_tied_plain_at .later [] _ _ _ _ said (fun _ h => by cases h) (by kernel_rfl) (fun _ h => by cases h) hotSizes_row_tie rfl ⟨rfl, rfl⟩ (by kernel_rfl) rfl plain (by kernel_rfl)
#print axioms card
end Go.Proofs.YtepmblomgmghcaaGreatDoor.hotSizes
