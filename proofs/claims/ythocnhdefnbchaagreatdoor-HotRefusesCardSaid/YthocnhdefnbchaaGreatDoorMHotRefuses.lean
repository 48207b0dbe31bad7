/- cordwoodlaw10.HotRefuses answers true for every input. The table of powers and the errors out of the lists of chapter 10's rows. The statement HotRefuses of chapter 10 holds for every input: the call returns true and leaves its arguments as they were. -/
import Derived.Test.YthocnhdefnbchaaGreatDoorMn
import Derived.Test.YthocnhdefnbchaaGreatDoorMHotRefusesA
import Derived.Test.YthocnhdefnbchaaGreatDoorMi
import Derived.Test.YthocnhdefnbchaaGreatDoorMf
import Derived.Test.YthocnhdefnbchaaGreatDoorRows
import Derived.Test.YthocnhdefnbchaaGreatDoorMHotRefusesB
import Derived.Test.YthocnhdefnbchaaGreatDoorCards
import Derived.Test.YthocnhdefnbchaaGreatDoorTie
import Derived.Stop.LaidErr
import Derived.ProofKit
import Derived.OpenShut
import Derived.LaidMore
import Derived.Deep.DeepWitnessRowRef

/-! Jf -/
namespace Go.Proofs.YthocnhdefnbchaaGreatDoor.Sg
open Go.RowKit Er Go.Maps

/-! ### each batch in a segment of its own -/
theorem roll1 : ∀ (l : List Bt), l ≠ [] → (rollF 1 l).1.length + 1 = l.length ∧ ∃ x, (rollF 1 l).2 = [x] := by
  intro l
  obtain ⟨n, hn⟩ : ∃ n, l.length = n := ⟨_, rfl⟩
  induction n generalizing l with
  | zero => intro h; exact absurd (List.eq_nil_of_length_eq_zero hn) h
  | succ n ih =>
    intro _
    rcases snoc_cases l with rfl | ⟨l0, x, rfl⟩
    · simp at hn
    · rw [rollF_snoc]
      by_cases h0 : l0 = []
      · subst h0
        exact ⟨rfl, x, rfl⟩
      · obtain ⟨h1, y, h2⟩ := ih l0 (by simpa using hn) h0
        have hy := szB_pos y
        have hx := szB_pos x
        unfold rollAdd
        rw [h2, if_pos (by simp [sizes]; omega)]
        refine ⟨?_, x, rfl⟩
        simp only [List.length_append, List.length_cons, List.length_nil]
        omega
theorem vcode_any (x : Bt) : vcode x = 0 ∨ vcode x = 104 ∨ vcode x = 105 := by
  unfold vcode
  split
  · simp
  · split
    · simp
    · split <;> simp
/-- A row of one size is a block that is there for good. -/
theorem ints_one {P : Pm} {w : World} {F : Mm} (hH : Hp w P F) (x : Int) (t : TypeId) : ∃ P', Sub P P' ∧ Hp (w.alloc (.cells #[.int .i64 x] t)) P' F ∧ Pers P' (fun w' => IntsR w' (some ⟨w.heap.size, 0, none⟩) [x]) := by
  obtain ⟨P1, h1, h2, h3⟩ := hH.lay (.cells #[.int .i64 x] t)
  refine ⟨P1, h1, h2, fun w' hw k y hk => ?_⟩
  have hb := hw.m _ _ h3
  cases k with
  | zero =>
    simp only [List.getElem?_cons_zero, Option.some.injEq] at hk
    subst hk
    exact ⟨_, 0, rfl, hw.lt h3, by simp [World.cell?, hb]⟩
  | succ k => simp at hk
/-- Row of one, and its batch. -/
theorem row_1 {P : Pm} {w : World} {F : Mm} (hH : Hp w P F) (a : Option Addr) (c : Nat) (x : Int) (hr : Pers P (fun w => IntsR w a [x])) (base : Int) (h0 : -10 ≤ base) (h1 : base ≤ 1099511627776) :
    Calls Tryz.prog 25 #[.int .i64 base, .slice a 1 c, .int .i64 0] w fun e w' => ∃ g off cap P' ra rc, e = .returned (.slice (some ⟨g, off, none⟩) 1 cap) ∧ 1 ≤ cap ∧ Sub P P' ∧
      Pers P' (fun w => w.cell? ⟨g, off, none⟩ = some (.int .i64 base) ∧ w.cell? ⟨g, off + 1, none⟩ = some (.int .i64 1) ∧ w.cell? ⟨g, off + 2, none⟩ = some (.slice ra (rN x) rc) ∧ RcsV w (.slice ra (rN x) rc) (rBt 0 x 0 base).r) ∧ Hp w' P' F := by
  refine (row_neg hH a [x] c hr 0 (by decide) (by simp) base h0 h1).mono ?_
  rintro e w1 ⟨v1, P1, out, rfl, hs1, hm1, hb1, hH1⟩
  have hm2 : out.map (·.1) = [rBt 0 x 0 base] := hm1
  obtain ⟨p, rfl⟩ : ∃ p, out = [p] := by
    have hl : out.length = 1 := by have := congrArg List.length hm2; simpa using this
    exact List.length_eq_one_iff.1 hl
  have hp : p.1 = rBt 0 x 0 base := by simpa using hm2
  obtain ⟨g, off, cap, rfl, hcap, hbc⟩ := hb1.at_ (k := 0) (by simp)
  obtain ⟨-, -, -, -, hr0⟩ := hH1.use hbc
  obtain ⟨ra, rc, hsl⟩ := hr0.shape
  have hsl' : p.2 = .slice ra (rN x) rc := by
    have : p.2 = .slice ra p.1.r.length rc := hsl
    rw [this, hp, rBt_len]
  refine ⟨g, off, cap, P1, ra, rc, rfl, hcap, hs1, hbc.imp (fun w h => ?_), hH1⟩
  obtain ⟨-, k0, k1, k2, k3⟩ := h
  simp only [List.getElem_cons_zero, Nat.zero_mul, Nat.add_zero] at k0 k1 k2 k3
  rw [hsl'] at k2 k3
  rw [hp] at k0 k1 k3
  exact ⟨k0, k1, k2, k3⟩

set_option maxRecDepth 100000 in
set_option maxHeartbeats 16000000 in
theorem hotrefuses_all (a0 : Option Addr) (len0 cap0 : Nat) (z0 : List Int) (a b : Int) (W : World) (h : IsRow W a0 len0 cap0 z0) (hS : ∀ i, i < 10 ∨ i = 14 → i ∈ List.range 19) (hE : Errs (List.range 19) W (errAt W) W.heap.size)
    (hT : Lib.TabIs Tryz.prog W "internal/strconv.uint64pow10" .u64 Lib.pow10Tab) :
    Calls Tryz.prog 5 #[.slice a0 len0 cap0, .int .i64 a, .int .i64 b] W fun e W' => e = .returned (.bool true) ∧ Below W.heap.size W W' := by
  have C := ctx_start hS hE hT
  obtain ⟨xs, rfl, hC⟩ := isRow_C h
  have hCp := ints_pers hC
  have H0 : Hid (Hp W (Pm.start W) []) := Hp.start W
  clear h hC hE hT
  have HCP := Lib.hid hCp
  clear hCp
  by_cases hlen : 10 < xs.length ∨ xs.length = 0
  · obtain ⟨n, hn⟩ : ∃ n, xs.length = n := ⟨_, rfl⟩
    rw [hn] at hlen ⊢
    clear HCP hn
    have hc : 10 < n ∨ (¬ 10 < n ∧ n = 0) := by omega
    clear hlen
    rcases hc with hn1 | ⟨hn1, hn2⟩
    · go_enter Tryz.func5, Tryz.ntmps5
      go_wp2_with fail
      refine (first10_ok C H0.out).mono ?_
      rintro e w1 ⟨rfl, P1, hs1, hH1⟩
      have HB := Lib.hid (hH1.to_below hs1)
      clear hH1 hs1
      go_wp2_with fail
      go_ret
      exact ⟨rfl, HB.out⟩
    · subst hn2
      go_enter Tryz.func5, Tryz.ntmps5
      go_wp2_with fail
      refine (first10_ok C H0.out).mono ?_
      rintro e w1 ⟨rfl, P1, hs1, hH1⟩
      have HB := Lib.hid (hH1.to_below hs1)
      clear hH1 hs1
      go_wp2_with fail
      go_ret
      exact ⟨rfl, HB.out⟩
  · obtain ⟨kl, hkl⟩ : ∃ kl, xs.length = kl + 1 := ⟨xs.length - 1, by omega⟩
    have hkl9 : kl ≤ 9 := by omega
    obtain ⟨hch, hok, hsz, hen1, hen2⟩ := row20b 2 xs 0 (by omega) (by omega)
    obtain ⟨L, hLd⟩ : ∃ L, L = rowGo 2 xs 0 ((0 : Nat) : Int) := ⟨_, rfl⟩
    have hll : L.length = kl + 1 := by rw [hLd]; exact (row_len 2 xs 0 _).trans hkl
    have hep1 : ∀ x, x ∈ L → 1 ≤ x.e := by
      have key : ∀ (l : List Int) (i : Nat) (a : Int), ∀ x, x ∈ rowGo 2 l i a → 1 ≤ x.e := by
        intro l
        induction l with
        | nil => intro i a x hx; cases hx
        | cons s l ih =>
          intro i a x hx
          rcases List.mem_cons.1 hx with rfl | hx
          · exact (rEp_mono 2 i).2
          · exact ih _ _ x hx
      rw [hLd]
      exact key xs 0 _
    rw [← hLd] at hch hok hsz hen1 hen2
    rw [hkl] at hen1 hen2
    obtain ⟨en, hen⟩ : ∃ en, endOf ((0 : Nat) : Int) L = en := ⟨_, rfl⟩
    rw [hen] at hen1 hen2
    have e1 : 1 ≤ en := by omega
    have e2 : en ≤ 60 := by omega
    obtain ⟨z, hz⟩ : ∃ z, L[kl]'(by omega) = z := ⟨_, rfl⟩
    obtain ⟨zb, hzb⟩ : ∃ b, z.b = b := ⟨_, rfl⟩
    obtain ⟨ze, hze⟩ : ∃ e, z.e = e := ⟨_, rfl⟩
    have hzm : z ∈ L := by rw [← hz]; exact List.getElem_mem _
    have hsp : L = L.take kl ++ [z] := by
      have := take_split L kl (by omega)
      rw [hz, List.drop_of_length_le (by omega)] at this
      exact this.symm
    have hzb1 : zb = endOf ((0 : Nat) : Int) (L.take kl) := by
      have h1 := hch
      rw [hsp] at h1
      rw [← hzb]
      exact ((chain_app _ _ _ _).1 h1).2.1
    have hzbb : 0 ≤ zb ∧ zb ≤ 60 := by
      have h1 := chain_mem _ _ _ hch (fun y hy => (hok y hy).1.n1) z hzm
      have h2 := (hok z hzm).1.n1
      rw [hzb, hen] at h1
      omega
    have hzeb : 1 ≤ ze ∧ ze ≤ 1073741824 := by
      rw [← hze]
      exact ⟨hep1 z hzm, (hok z hzm).1.e1⟩
    have hzep : epOf 0 L = ze := by rw [hsp, epOf_snoc, hze]
    obtain ⟨om, hom⟩ : ∃ om, a % 5 = om := ⟨_, rfl⟩
    have om0 : 0 ≤ om := by omega
    have om1 : om < 5 := by omega
    obtain ⟨qe, hqe⟩ : ∃ q : Nat, b % ((4 : Nat) : Int) = (q : Int) := ⟨(b % 4).toNat, by omega⟩
    have hqe4 : qe < 4 := by omega
    have HQE := Lib.hid hqe
    have HOM := Lib.hid hom
    have HLD := Lib.hid hLd
    have HCH := Lib.hid hch
    have HOK := Lib.hid hok
    have HSZ := Lib.hid hsz
    have HEN0 := Lib.hid hen
    have HLL := Lib.hid hll
    have HZ : Hid (L[kl]? = some z) := by show _ = _; rw [← hz]; exact List.getElem?_eq_getElem _
    have HZB := Lib.hid hzb
    have HZE := Lib.hid hze
    have HZB1 := Lib.hid hzb1
    have HZEP := Lib.hid hzep
    have HSP := Lib.hid hsp
    have HEP1 := Lib.hid hep1
    obtain ⟨z0b, z1b⟩ := hzbb
    obtain ⟨z2b, z3b⟩ := hzeb
    obtain ⟨n, hn⟩ : ∃ n, n = kl + 1 := ⟨_, rfl⟩
    rw [← hn] at hkl
    rw [hkl]
    have HNX := Lib.hid hkl
    have HNK := Lib.hid hn
    have n1 : ¬ 10 < n := by omega
    have n2 : ¬ n = 0 := by omega
    have n3 : ¬ (10 : Int) < (n : Int) := by omega
    have n4 : ¬ (n : Int) = 0 := by omega
    have d2 : ((n : Int) == 0) = false := beq_eq_false_iff_ne.2 (by omega)
    have d3 : (decide ((10 : Int) < (n : Int)) || (n : Int) == 0) = false := by rw [d2, Bool.or_false]; exact decide_eq_false (by omega)
    have n5 : IntKind.i64.wrap ((n : Int) - 1) = (kl : Int) := by rw [show (n : Int) - 1 = (kl : Int) from by omega]; exact IntWalk.i64_in _ (by omega)
    have n6 : (kl : Int) < (n : Int) := by omega
    have n7 : (0 : Int) ≤ (kl : Int) := by omega
    have n8 : n ≤ 10 := by omega
    clear hn hlen hLd hch hok hsz hen hll hkl hz hzb hze hzb1 hzep hsp hep1 hqe hom hen1 hen2 hzm
    go_enter Tryz.func5, Tryz.ntmps5
    go_wp2_with fail
    refine (first10_ok C H0.out).mono ?_
    rintro e w1 ⟨rfl, P1, hs1, hH1⟩
    have H1 := Lib.hid hH1
    have HS1 := Lib.hid hs1
    clear hH1 hs1
    go_wp2_with fail
    refine (row_m H1.out a0 xs cap0 n HNX.out (HCP.out.sub HS1.out) 2 (by decide) (by omega) 0 (by decide) (by decide)).mono ?_
    rintro e w2 ⟨v2, P2, out2, rfl, hs2, hm2, hb2, hH2⟩
    have hm2' : out2.map (·.1) = L := hm2.trans HLD.out.symm
    have hol : out2.length = n := by have := congrArg List.length hm2'; rw [List.length_map, HLL.out, ← HNK.out] at this; exact this
    have H2 := Lib.hid hH2
    have HB2 := Lib.hid hb2
    have HM2 := Lib.hid hm2'
    have HO2 := Lib.hid hol
    have HS2 := Lib.hid (HS1.out.trans hs2)
    have HC2 := Lib.hid (C.sub (HS1.out.trans hs2))
    clear hm2 hs2 hb2 hH2 hm2' hol
    obtain ⟨va, vc, hva, hvc⟩ := HB2.out.shape
    rw [HO2.out] at hva hvc
    subst hva
    go_wp2_with fail
    refine (made10_ok HC2.out 1 (by omega) (by omega) 0 (by omega) _ out2 HB2.out L HM2.out HCH.out HOK.out HSZ.out H2.out).mono ?_
    rintro e w3 ⟨dx, hx, P3, Ax, Adx, Dx, Hx, rfl, hs3, hMx, hDx, hOx, hd3, hseg3, hev3, hroll, hroom, hused, hnn, hnx, hH3⟩
    have hsegs : Hx.L.length = n := by
      rw [HNK.out]
      have h1 := congrArg List.length hroll
      obtain ⟨h2, -⟩ := roll1 L (by intro h; have := HLL.out; rw [h] at this; simp at this)
      rw [List.length_map] at h1
      unfold stL at h1
      rw [HLL.out] at h2
      simp only [List.length_append, List.length_singleton] at h1
      omega
    have hend : Hx.end_ = en := (hOx.hend hnx).trans HEN0.out
    have hko : kl < out2.length := by rw [HO2.out, HNK.out]; omega
    obtain ⟨g3, off3, cap3, hvv, hcap, hbc⟩ := HB2.out.at_ hko
    rw [HO2.out] at hvv hcap
    simp only [Value.slice.injEq] at hvv
    obtain ⟨rfl, -, rfl⟩ := hvv
    have hxk : (out2[kl]'hko).1 = z := by
      have h1 := HZ.out
      rw [← HM2.out, List.getElem?_map, List.getElem?_eq_getElem hko] at h1
      simpa using h1
    have hzc : Pers P3 (fun w => w.cell? ⟨g3, off3 + kl * 3, none⟩ = some (.int .i64 zb) ∧ w.cell? ⟨g3, off3 + kl * 3 + 1, none⟩ = some (.int .i64 ze)) := (hbc.sub hs3).imp (fun w h => by
      obtain ⟨-, h0, h1, -, -⟩ := h
      rw [hxk] at h0 h1
      rw [HZB.out] at h0
      rw [HZE.out] at h1
      exact ⟨h0, h1⟩)
    obtain ⟨c0, c1⟩ := hH3.use hzc
    have H3 := Lib.hid hH3
    have HMx := Lib.hid hMx
    have HDx := Lib.hid hDx
    have HOx := Lib.hid hOx
    have HSEG := Lib.hid hsegs
    have HEN := Lib.hid hend
    have HNX2 := Lib.hid hnx
    have HZC := Lib.hid hzc
    have HRU := Lib.hid (show Dx.room = 1048576 ∧ Dx.used = sizes L ∧ Dx.n ≤ kl + 2 ∧ Hx.seg = 1 ∧ Hx.every = 60 from ⟨hroom, hused, by rw [HLL.out] at hnn; omega, hseg3, hev3⟩)
    have HS3 := Lib.hid (HS2.out.trans hs3)
    have HC3 := Lib.hid (HC2.out.sub hs3)
    clear hH3 hs3 hMx hDx hOx hsegs hend hnx hzc hroom hused hnn hbc hxk hd3 hseg3 hev3 hroll
    go_wp2_with fail
    refine (hend_ok HMx.out HOx.out.W H3.out).mono ?_
    rintro e w4 ⟨rfl, hH4⟩
    rw [HEN.out]
    have H4 := Lib.hid hH4
    clear hH4 c0 c1
    go_wp2_with fail
    refine (long_any a 5 (by omega) (by omega) _).mono ?_
    rintro e w' ⟨rfl, rfl⟩
    rw [HOM.out]
    obtain ⟨P5, hs5, hH5, hi5⟩ := ints_one H4.out 1 3
    have H5 := Lib.hid hH5
    have HI5 := Lib.hid hi5
    clear hH5 hi5
    go_wp2_with fail
    refine (row_1 H5.out _ _ 1 HI5.out (en + om - 2) (by omega) (by omega)).mono ?_
    rintro e w6 ⟨g6, o6, cap6, P6, ra, rc, rfl, hcap6, hs6, hp6, hH6⟩
    obtain ⟨bs, hbs⟩ : ∃ bs, en + om - 2 = bs := ⟨_, rfl⟩
    obtain ⟨rl, hrl⟩ : ∃ n, rN 1 = n := ⟨_, rfl⟩
    rw [hbs, hrl] at hp6
    have hrl5 : 1 ≤ rl ∧ rl ≤ 5 := by rw [← hrl]; exact rN_pos 1
    obtain ⟨rr, hrr⟩ : ∃ r, (rBt 0 1 0 bs).r = r := ⟨_, rfl⟩
    have hrrl : rr.length = rl := by rw [← hrr, rBt_len, hrl]
    rw [hrr] at hp6
    obtain ⟨k0, k1, k2, -⟩ := hH6.use hp6
    have hbox := hH6.alloc (.cells #[.int .i64 bs, .int .i64 1, .slice ra rl rc] 38)
    have HBOX := Lib.hid hbox
    have HP6 := Lib.hid hp6
    have HS6 := Lib.hid (hs5.trans hs6)
    have HS6W := Lib.hid (HS3.out.trans (hs5.trans hs6))
    have HC6 := Lib.hid (HC3.out.sub (hs5.trans hs6))
    have HBS := Lib.hid hbs
    have hrok := row_ok 0 [1] 0 0 (by omega) (by simp) (by simp) (rBt 0 1 0 0) (by simp [rowGo])
    have hre : (rBt 0 1 0 0).r = rr := hrr
    have hrs := hrok.1.rs
    have hrby := hrok.2
    unfold BtBy at hrby
    rw [hre] at hrs hrby
    have HRS := Lib.hid hrs
    have HRBY := Lib.hid hrby
    have HRRL := Lib.hid hrrl
    have hz7 : ∀ M : List Bt, (∀ y, y ∈ M → BtOk y ∧ BtBy y) → sizes M ≤ M.length * 38816 := by
        intro M
        induction M with
        | nil => intro _; simp [sizes]
        | cons y M ih =>
          intro h
          have h1 := szB_le y (h y List.mem_cons_self).1
          have h2 := ih (fun z hz => h z (List.mem_cons_of_mem _ hz))
          simp only [sizes, List.map_cons, List.sum_cons, List.length_cons] at h2 ⊢
          omega
    have HSZ8 : Hid (sizes L ≤ 800000) := by
      show _ ≤ _
      have hz : ∀ M : List Bt, (∀ y, y ∈ M → BtOk y ∧ BtBy y) → sizes M ≤ M.length * 38816 := by
        intro M
        induction M with
        | nil => intro _; simp [sizes]
        | cons y M ih =>
          intro h
          have h1 := szB_le y (h y List.mem_cons_self).1
          have h2 := ih (fun z hz => h z (List.mem_cons_of_mem _ hz))
          simp only [sizes, List.map_cons, List.sum_cons, List.length_cons] at h2 ⊢
          omega
      have := hz L HOK.out
      have h2 := HLL.out
      omega
    have HSZ7 : Hid (sizes L ≤ 400000) := by
      show _ ≤ _
      have h1 := hz7 L HOK.out
      have h2 := HLL.out
      omega
    clear hbox hp6 hs6 hH6 hrr hrrl hrok hre hrs hrby hs5
    obtain ⟨r1b, r5b⟩ := hrl5
    by_cases hneg : bs < 0
    · have HB6 := Lib.hid (HBOX.out.to_below HS6W.out)
      clear hbs hrl
      go_wp2_with fail
      go_ret
      exact ⟨rfl, HB6.out⟩
    · obtain ⟨e', he⟩ : ∃ e', ze + (qe : Int) - 2 = e' := ⟨_, rfl⟩
      have HE' := Lib.hid he
      clear hbs hrl he
      go_wp2_with fail
      refine (number_any b 4 (by omega) (by omega) _).mono ?_
      rintro e w' ⟨rfl, rfl⟩
      rw [HQE.out]
      have hH7 := HBOX.out
      generalize w6.alloc (.cells #[.int .i64 bs, .int .i64 1, .slice ra rl rc] 38) = w7 at hH7 ⊢
      have kb0 := (@Hp.cell _ _ _ hH7 w6.heap.size _ _ (0, 0) List.mem_cons_self) (i := 0) rfl
      have kb1 := (@Hp.cell _ _ _ hH7 w6.heap.size _ _ (0, 0) List.mem_cons_self) (i := 1) rfl
      have kb2 := (@Hp.cell _ _ _ hH7 w6.heap.size _ _ (0, 0) List.mem_cons_self) (i := 2) rfl
      have f1 := @Hp.frozen _ _ _ hH7 w6.heap.size _ _ List.mem_cons_self 1
      have H7 := Lib.hid hH7
      clear hH7
      go_wp2_with fail
      rw [HE'.out]
      have hH8 := H7.out.set 1 (.int .i64 e')
      generalize w7.setCell ⟨w6.heap.size, 1, none⟩ (.int .i64 e') = w8 at hH8 ⊢
      have hH8' : Hp w8 P6 (Ax ++ (Adx ++ [(w6.heap.size, .cells #[.int .i64 bs, .int .i64 e', .slice ra rl rc] 38 (0, 0))])) := by
        have h1 : Hp w8 P6 ([(w6.heap.size, .cells #[.int .i64 bs, .int .i64 e', .slice ra rl rc] 38 (0, 0))] ++ ((Ax ++ Adx) ++ [])) := by simpa [List.append_assoc] using hH8
        simpa [List.append_assoc] using h1.mid
      obtain ⟨x, hx⟩ : ∃ x : Bt, x = ⟨bs, e', rr⟩ := ⟨_, rfl⟩
      have hxr : x.r = rr := by rw [hx]
      have hxb : x.b = bs := by rw [hx]
      have hxe : x.e = e' := by rw [hx]
      have hxv : Pers P6 (fun w => BtV w (.agg #[.int .i64 bs, .int .i64 e', .slice ra rl rc]) x) := HP6.out.imp (fun w h => ⟨_, by rw [hxb, hxe], by rw [hxr]; exact h.2.2.2⟩)
      have hxl : x.r.length ≤ 5 := by rw [hxr, HRRL.out]; omega
      have hxby : BtBy x := by unfold BtBy; rw [hxr]; exact HRBY.out
      obtain ⟨c, hc⟩ : ∃ c, vcode x = c := ⟨_, rfl⟩
      have hcc := vcode_any x
      rw [hc] at hcc
      have HXV := Lib.hid hxv
      have HXL := Lib.hid hxl
      have HXBY := Lib.hid hxby
      have HXB := Lib.hid hxb
      have HXE := Lib.hid hxe
      have HC := Lib.hid hc
      have H8 := Lib.hid hH8'
      have hbxc : ∀ w P F, Hp w P (Ax ++ (Adx ++ ((w6.heap.size, .cells #[.int .i64 bs, .int .i64 e', .slice ra rl rc] 38 (0, 0)) :: F))) → w.cell? ⟨w6.heap.size, 0, none⟩ = some (.int .i64 bs) ∧ w.cell? ⟨w6.heap.size, 1, none⟩ = some (.int .i64 e') ∧ w.cell? ⟨w6.heap.size, 2, none⟩ = some (.slice ra rl rc) := fun w P F hx =>
        ⟨hx.cell (b := w6.heap.size) (c := #[.int .i64 bs, .int .i64 e', .slice ra rl rc]) (t := 38) (fr := (0, 0)) (by simp) rfl, hx.cell (b := w6.heap.size) (c := #[.int .i64 bs, .int .i64 e', .slice ra rl rc]) (t := 38) (fr := (0, 0)) (by simp) rfl, hx.cell (b := w6.heap.size) (c := #[.int .i64 bs, .int .i64 e', .slice ra rl rc]) (t := 38) (fr := (0, 0)) (by simp) rfl⟩
      have HBXC := Lib.hid hbxc
      clear hH8 hH8' hx hxr hxb hxe hxv hxl hxby hc kb0 kb1 kb2 f1 hbxc k0 k1 k2
      refine (rvalid_any x (by have := HXL.out; omega) _ _ (H8.out.use HXV.out)).mono ?_
      rintro e w9 ⟨rfl, hb9⟩
      rw [HC.out]
      have hH9 := H8.out.below hb9 (Nat.le_refl _)
      obtain ⟨m0, m1, m2⟩ := HBXC.out _ _ _ hH9
      have H9 := Lib.hid hH9
      clear hH9 hb9
      have hcase : (c ≠ 0) ∨ (c = 0 ∧ ¬ bs = en) ∨ (c = 0 ∧ bs = en ∧ e' < ze) ∨ (c = 0 ∧ bs = en ∧ ¬ e' < ze) := by omega
      rcases hcase with q0 | ⟨q0, q1⟩ | ⟨q0, q1, q2⟩ | ⟨q0, q1, q2⟩
      case' inl =>
        have q3 : ¬ (c : Int) = 0 := by omega
        have hcc2 : ∃ i, c = 101 + i ∧ i < 19 := by rcases hcc with h | h | h; omega; exact ⟨3, h, by omega⟩; exact ⟨4, h, by omega⟩
        have HCC : Hid (c = 0 ∨ 101 ≤ c ∧ c < 120) := by show _ ∨ _; omega
        have HEV : Hid (∃ a, ev (errAt W) c = .iface 291 a) := by
          obtain ⟨i, h1, -⟩ := hcc2
          rw [h1]
          exact ⟨_, ev_some _ i⟩
        clear hcc hcc2
        go_wp2_with fail
        refine (happend_inv HC6.out HMx.out HNX2.out HOx.out.W x (by have := HXL.out; omega) c HC.out HEV.out _ HXV.out H9.out).mono ?_
        rintro e w10 ⟨rfl, hHa⟩
        have hH11 := hHa
        have HE11 := Lib.hid (HC6.out.errs _ hH11.agr)
        have H11 := Lib.hid hH11
        clear hH11 hHa
        go_wp2_with fail
        refine (is_any HE11.out c HCC.out (c : Int)).mono ?_
        rintro e w12 ⟨rfl, hb12⟩
        rw [show (((c : Nat) : Int) == (c : Int)) = true from by simp]
        have H12 := Lib.hid (H11.out.below hb12 (Nat.le_refl _))
        clear hb12
        go_wp2_with fail
        refine (hend_ok HMx.out HOx.out.W H12.out).mono ?_
        rintro e w13 ⟨rfl, hH13⟩
        rw [HEN.out]
        have H13 := Lib.hid hH13
        clear hH13
        go_wp2_with fail
        refine (hsegs_ok HMx.out HOx.out.W H13.out).mono ?_
        rintro e w14 ⟨v14, At, rfl, ht14, hH14⟩
        obtain ⟨ta, tc, rfl⟩ := ht14.shape
        rw [List.length_map, HSEG.out]
        obtain ⟨P20, hP20⟩ : ∃ P, P = P6 := ⟨_, rfl⟩
        obtain ⟨D20, hD20⟩ : ∃ D, D = Dx := ⟨_, rfl⟩
        obtain ⟨h20, hh20⟩ : ∃ H, H = Hx := ⟨_, rfl⟩
        obtain ⟨A20, hA20⟩ : ∃ A, A = Ax := ⟨_, rfl⟩
        obtain ⟨Ad20, hAd20⟩ : ∃ A, A = Adx := ⟨_, rfl⟩
        obtain ⟨l20, hl20⟩ : ∃ l, l = L := ⟨_, rfl⟩
        have hfin : Sub P6 P20 ∧ HlM hx h20 A20 ∧ DkM P20 h20.d D20 Ad20 ∧ HotOn D20 h20 ((0 : Nat) : Int) l20 ∧ h20.L ≠ [] ∧ l20.take kl = L.take kl ∧ kl ≤ l20.length ∧ h20.seg = 1 ∧ D20.room = 1048576 ∧ D20.used ≤ 800000 ∧ D20.n ≤ 1000 := by
          subst hP20 hD20 hh20 hA20 hAd20 hl20
          obtain ⟨q1, q2, q3, q4, q5⟩ := HRU.out
          exact ⟨Sub.refl _, HMx.out, HDx.out.sub HS6.out, HOx.out, HNX2.out, rfl, by rw [HLL.out]; omega, q4, q1, by rw [q2]; exact HSZ8.out, by omega⟩
        have hH20 : Hp w14 P20 (A20 ++ (Ad20 ++ [(w6.heap.size, .cells #[.int .i64 bs, .int .i64 e', .slice ra rl rc] 38 (0, 0))])) := by
          subst hP20 hD20 hh20 hA20 hAd20 hl20
          exact hH14.drop
        have H20 := Lib.hid hH20
        have HF := Lib.hid hfin
        obtain ⟨c0, c1⟩ := H20.out.use (HZC.out.sub (HS6.out.trans HF.out.1))
        clear hH20 hfin hP20 hD20 hh20 hA20 hAd20 hl20 hH14 ht14
        go_wp2_with fail
      case' inr.inl =>
        have HXO : Hid (BtOk x) := vcode_ok x (by rw [HC.out]; exact q0)
        have q4 : (bs == en) = false := beq_eq_false_iff_ne.2 q1
        have q5 : (bs != en) = true := by simp [q1]
        have HQ1 := Lib.hid q1
        subst q0
        clear hcc q1
        go_wp2_with fail
        refine (happend_shape HC6.out HMx.out HNX2.out HOx.out.W (by have := HOx.out.small.1; have h2 := HOx.out.fl; rw [h2]; omega) x HXO.out (.inl (by rw [HXB.out, HEN.out]; exact HQ1.out)) _ HXV.out H9.out).mono ?_
        rintro e w10 ⟨rfl, hHa⟩
        rw [← ev_some (errAt W) 2]
        have hH11 := hHa
        have HE11 := Lib.hid (HC6.out.errs _ hH11.agr)
        have H11 := Lib.hid hH11
        clear hH11 hHa
        go_wp2_with fail
        refine (is_any HE11.out (101 + 2) (.inr (by omega)) 103).mono ?_
        rintro e w12 ⟨rfl, hb12⟩
        rw [show ((((101 + 2 : Nat) : Int)) == 103) = true from by decide]
        have H12 := Lib.hid (H11.out.below hb12 (Nat.le_refl _))
        clear hb12
        go_wp2_with fail
        refine (hend_ok HMx.out HOx.out.W H12.out).mono ?_
        rintro e w13 ⟨rfl, hH13⟩
        rw [HEN.out]
        have H13 := Lib.hid hH13
        clear hH13
        go_wp2_with fail
        refine (hsegs_ok HMx.out HOx.out.W H13.out).mono ?_
        rintro e w14 ⟨v14, At, rfl, ht14, hH14⟩
        obtain ⟨ta, tc, rfl⟩ := ht14.shape
        rw [List.length_map, HSEG.out]
        obtain ⟨P20, hP20⟩ : ∃ P, P = P6 := ⟨_, rfl⟩
        obtain ⟨D20, hD20⟩ : ∃ D, D = Dx := ⟨_, rfl⟩
        obtain ⟨h20, hh20⟩ : ∃ H, H = Hx := ⟨_, rfl⟩
        obtain ⟨A20, hA20⟩ : ∃ A, A = Ax := ⟨_, rfl⟩
        obtain ⟨Ad20, hAd20⟩ : ∃ A, A = Adx := ⟨_, rfl⟩
        obtain ⟨l20, hl20⟩ : ∃ l, l = L := ⟨_, rfl⟩
        have hfin : Sub P6 P20 ∧ HlM hx h20 A20 ∧ DkM P20 h20.d D20 Ad20 ∧ HotOn D20 h20 ((0 : Nat) : Int) l20 ∧ h20.L ≠ [] ∧ l20.take kl = L.take kl ∧ kl ≤ l20.length ∧ h20.seg = 1 ∧ D20.room = 1048576 ∧ D20.used ≤ 800000 ∧ D20.n ≤ 1000 := by
          subst hP20 hD20 hh20 hA20 hAd20 hl20
          obtain ⟨q1, q2, q3, q4, q5⟩ := HRU.out
          exact ⟨Sub.refl _, HMx.out, HDx.out.sub HS6.out, HOx.out, HNX2.out, rfl, by rw [HLL.out]; omega, q4, q1, by rw [q2]; exact HSZ8.out, by omega⟩
        have hH20 : Hp w14 P20 (A20 ++ (Ad20 ++ [(w6.heap.size, .cells #[.int .i64 bs, .int .i64 e', .slice ra rl rc] 38 (0, 0))])) := by
          subst hP20 hD20 hh20 hA20 hAd20 hl20
          exact hH14.drop
        have H20 := Lib.hid hH20
        have HF := Lib.hid hfin
        obtain ⟨c0, c1⟩ := H20.out.use (HZC.out.sub (HS6.out.trans HF.out.1))
        clear hH20 hfin hP20 hD20 hh20 hA20 hAd20 hl20 hH14 ht14
        go_wp2_with fail
      case' inr.inr.inl =>
        have HXO : Hid (BtOk x) := vcode_ok x (by rw [HC.out]; exact q0)
        have HQ1 := Lib.hid q1
        have HQ2 := Lib.hid q2
        subst q0
        have q5 : (bs != en) = false := by simp [q1]
        have q6 : (bs == en) = true := by simp [q1]
        have HEPX : Hid (Hx.ep = ze) := by show _ = _; unfold Hl.ep; rw [HOx.out.fl]; exact HZEP.out
        clear hcc q1
        go_wp2_with fail
        refine (happend_shape HC6.out HMx.out HNX2.out HOx.out.W (by have := HOx.out.small.1; have h2 := HOx.out.fl; rw [h2]; omega) x HXO.out (.inr ⟨by rw [HXB.out, HEN.out]; exact HQ1.out, by rw [HXE.out, HEPX.out]; exact HQ2.out⟩) _ HXV.out H9.out).mono ?_
        rintro e w10 ⟨rfl, hHa⟩
        rw [← ev_some (errAt W) 2]
        have hH11 := hHa
        have HE11 := Lib.hid (HC6.out.errs _ hH11.agr)
        have H11 := Lib.hid hH11
        clear hH11 hHa
        go_wp2_with fail
        refine (is_any HE11.out (101 + 2) (.inr (by omega)) 103).mono ?_
        rintro e w12 ⟨rfl, hb12⟩
        rw [show ((((101 + 2 : Nat) : Int)) == 103) = true from by decide]
        have H12 := Lib.hid (H11.out.below hb12 (Nat.le_refl _))
        clear hb12
        go_wp2_with fail
        refine (hend_ok HMx.out HOx.out.W H12.out).mono ?_
        rintro e w13 ⟨rfl, hH13⟩
        rw [HEN.out]
        have H13 := Lib.hid hH13
        clear hH13
        go_wp2_with fail
        refine (hsegs_ok HMx.out HOx.out.W H13.out).mono ?_
        rintro e w14 ⟨v14, At, rfl, ht14, hH14⟩
        obtain ⟨ta, tc, rfl⟩ := ht14.shape
        rw [List.length_map, HSEG.out]
        obtain ⟨P20, hP20⟩ : ∃ P, P = P6 := ⟨_, rfl⟩
        obtain ⟨D20, hD20⟩ : ∃ D, D = Dx := ⟨_, rfl⟩
        obtain ⟨h20, hh20⟩ : ∃ H, H = Hx := ⟨_, rfl⟩
        obtain ⟨A20, hA20⟩ : ∃ A, A = Ax := ⟨_, rfl⟩
        obtain ⟨Ad20, hAd20⟩ : ∃ A, A = Adx := ⟨_, rfl⟩
        obtain ⟨l20, hl20⟩ : ∃ l, l = L := ⟨_, rfl⟩
        have hfin : Sub P6 P20 ∧ HlM hx h20 A20 ∧ DkM P20 h20.d D20 Ad20 ∧ HotOn D20 h20 ((0 : Nat) : Int) l20 ∧ h20.L ≠ [] ∧ l20.take kl = L.take kl ∧ kl ≤ l20.length ∧ h20.seg = 1 ∧ D20.room = 1048576 ∧ D20.used ≤ 800000 ∧ D20.n ≤ 1000 := by
          subst hP20 hD20 hh20 hA20 hAd20 hl20
          obtain ⟨q1, q2, q3, q4, q5⟩ := HRU.out
          exact ⟨Sub.refl _, HMx.out, HDx.out.sub HS6.out, HOx.out, HNX2.out, rfl, by rw [HLL.out]; omega, q4, q1, by rw [q2]; exact HSZ8.out, by omega⟩
        have hH20 : Hp w14 P20 (A20 ++ (Ad20 ++ [(w6.heap.size, .cells #[.int .i64 bs, .int .i64 e', .slice ra rl rc] 38 (0, 0))])) := by
          subst hP20 hD20 hh20 hA20 hAd20 hl20
          exact hH14.drop
        have H20 := Lib.hid hH20
        have HF := Lib.hid hfin
        obtain ⟨c0, c1⟩ := H20.out.use (HZC.out.sub (HS6.out.trans HF.out.1))
        clear hH20 hfin hP20 hD20 hh20 hA20 hAd20 hl20 hH14 ht14
        go_wp2_with fail
      case' inr.inr.inr =>
        have HXO : Hid (BtOk x) := vcode_ok x (by rw [HC.out]; exact q0)
        have HQ1 := Lib.hid q1
        have HQ2 := Lib.hid q2
        subst q0
        have q5 : (bs != en) = false := by simp [q1]
        have q6 : (bs == en) = true := by simp [q1]
        clear hcc q1
        obtain ⟨L0, s0, G0, hL0⟩ : ∃ L0 s G, Hx.L = L0 ++ [(s, G)] := by
          rcases lastHl Hx.L with h | h
          · exact absurd h HNX2.out
          · exact h
        have hap := happend_on HC6.out HMx.out HOx.out (HDx.out.sub HS6.out) hL0 x HXO.out HXBY.out _ HXV.out (by rw [HXB.out, HQ1.out]; exact HEN0.out.symm) (by rw [HZEP.out, HXE.out]; have := HQ2.out; omega) (by
          obtain ⟨q1, q2, -⟩ := HRU.out
          have := szB_le x HXO.out
          rw [q1, q2]
          have := HSZ8.out
          omega) (by obtain ⟨-, -, q3, -⟩ := HRU.out; omega) H9.out
        have HAP := Lib.hid hap
        clear hap hL0
        go_wp2_with fail
        refine HAP.out.mono ?_
        rintro e w10 ⟨rfl, P20, A20, Ad20, D20, h20, hs20, hM20, hD20, hO20, hA20, hH10⟩
        have HE11 := Lib.hid ((HC6.out.sub hs20).errs _ hH10.agr)
        have hfin : Sub P6 P20 ∧ HlM hx h20 A20 ∧ DkM P20 h20.d D20 Ad20 ∧ HotOn D20 h20 ((0 : Nat) : Int) (L ++ [x]) ∧ h20.L ≠ [] ∧ (L ++ [x]).take kl = L.take kl ∧ kl ≤ (L ++ [x]).length ∧ h20.seg = 1 ∧ D20.room = 1048576 ∧ D20.used ≤ 800000 ∧ D20.n ≤ 1000 := by
          obtain ⟨q1, q2, q3, q4, q5⟩ := HRU.out
          have hszx := szB_le x HXO.out
          have h8 := HSZ7.out
          refine ⟨hs20, hM20, by rw [hA20.d]; exact hD20, hO20, hA20.ne, ?_, ?_, by rw [hA20.seg]; exact q4, by rw [hA20.room]; exact q1, by rw [hA20.used, q2]; omega, by have := hA20.n; omega⟩
          · rw [List.take_append_of_le_length (by rw [HLL.out]; omega)]
          · rw [List.length_append, HLL.out]; omega
        obtain ⟨l20, hl20⟩ : ∃ l, l = L ++ [x] := ⟨_, rfl⟩
        rw [← hl20] at hfin
        have HF := Lib.hid hfin
        have H10 := Lib.hid hH10
        clear hs20 hM20 hD20 hO20 hA20 hH10 hfin hl20
        go_wp2_with fail
        refine (is_any HE11.out 0 (.inl rfl) 0).mono ?_
        rintro e w14 ⟨rfl, hb14⟩
        have H20 := Lib.hid (H10.out.below hb14 (Nat.le_refl _))
        obtain ⟨c0, c1⟩ := H20.out.use (HZC.out.sub (HS6.out.trans HF.out.1))
        clear hb14
        go_wp2_with fail
      all_goals
        obtain ⟨f1, f2, f3, f4, f5, f6, f7, -⟩ := HF.out
        have hce := hcutend_any (HC6.out.sub f1) f2 (by rw [un_of f4.I.arm f4.I.down]; exact f4) f3 f4.I.down f5 kl f7 zb (by rw [f6]; exact HZB1.out.symm) H20.out
        have HCE := Lib.hid hce
        clear f1 f2 f3 f4 f5 f6 f7 hce
        refine HCE.out.mono ?_
        rintro e w21 (⟨rfl, P22, A22, Ad22, D22, h22, L1, s1, G1, L2, j1, hs22, hM22, hD22, hO22, hL22, hh22, hu22, hr22, hn22, hon22, hH22⟩ | ⟨rfl, P22, A22, Ad22, D22, L1, L2, hs22, hM22, hD22, hoff, -⟩)
        case inr =>
          obtain ⟨-, -, -, f4, -⟩ := HF.out
          exact absurd ⟨f4.I.arm, f4.I.down⟩ hoff.was
        case' inl =>
          obtain ⟨f1, f2, f3, f4, f5, f6, f7, f8, f9, f10, f11⟩ := HF.out
          have e22 : D22.un = D22 := un_of (by have := hon22.arm; rw [f4.I.arm] at this; omega) hon22.down
          rw [e22, f6] at hO22
          have hd22 : h22.d = h20.d := by rw [hh22]
          have hD22' : DkM P22 h22.d D22 Ad22 := by rw [hd22]; exact hD22
          have hne22 : ∃ L0 s G, h22.L = L0 ++ [(s, G)] := ⟨L1, s1, G1.cutK j1, by rw [hh22]⟩
          have hsz22 : h22.seg = 1 ∧ D22.room = 1048576 ∧ D22.used ≤ 800000 ∧ D22.n ≤ 1000 := ⟨by rw [hh22]; exact f8, hr22.trans f9, by omega, by omega⟩
          obtain ⟨c0, c1⟩ := hH22.use (HZC.out.sub ((HS6.out.trans f1).trans hs22))
          obtain ⟨P23, hs23, hH23, hi23⟩ := ints_one hH22 1 3
          have H23 := Lib.hid hH23
          have HI23 := Lib.hid hi23
          have HS22 := Lib.hid ((f1.trans hs22).trans hs23)
          have HSS := Lib.hid hs23
          have HM22 := Lib.hid hM22
          have HD22 := Lib.hid hD22'
          have HO22 := Lib.hid hO22
          have HNE22 := Lib.hid hne22
          have HSZ22 := Lib.hid hsz22
          clear f1 f2 f3 f4 f5 f6 f7 f8 f9 f10 f11 e22 hd22 hD22' hne22 hsz22 hs22 hM22 hD22 hO22 hL22 hh22 hu22 hr22 hn22 hon22 hH22 hs23 hH23 hi23
          go_wp2_with fail
          refine (row_1 H23.out _ _ 1 HI23.out zb (by omega) (by omega)).mono ?_
          rintro e w24 ⟨g24, o24, cap24, P24, ra2, rc2, rfl, hcap24, hs24, hp24, hH24⟩
          obtain ⟨rl2, hrl2⟩ : ∃ n, rN 1 = n := ⟨_, rfl⟩
          rw [hrl2] at hp24
          obtain ⟨d0, d1, d2, -⟩ := hH24.use hp24
          have hbox2 := hH24.alloc (.cells #[.int .i64 zb, .int .i64 0, .slice ra2 rl2 rc2] 38)
          obtain ⟨x2, hx2⟩ : ∃ x : Bt, x = ⟨zb, 0, (rBt 0 1 0 zb).r⟩ := ⟨_, rfl⟩
          have hx2b : x2.b = zb := by rw [hx2]
          have hx2e : x2.e = 0 := by rw [hx2]
          have hx2r : x2.r = (rBt 0 1 0 zb).r := by rw [hx2]
          have hrok := row_ok 0 [1] 0 zb (by omega) (by simp; omega) (by simp) (rBt 0 1 0 zb) (by simp [rowGo])
          have hx2o : BtOk x2 := by rw [hx2]; exact ⟨hrok.1.n1, hrok.1.n64, hrok.1.b0, hrok.1.b1, Int.le_refl _, show (0 : Int) ≤ 1073741824 by decide, hrok.1.rs⟩
          have hx2y : BtBy x2 := by have h := hrok.2; unfold BtBy at h ⊢; rw [hx2r]; exact h
          have hx2v : Pers P24 (fun w => BtV w (.agg #[.int .i64 zb, .int .i64 0, .slice ra2 rl2 rc2]) x2) := hp24.imp (fun w h => ⟨_, by rw [hx2b, hx2e], by rw [hx2r]; exact h.2.2.2⟩)
          have hH25 : Hp (w24.alloc (.cells #[.int .i64 zb, .int .i64 0, .slice ra2 rl2 rc2] 38)) P24 (A22 ++ (Ad22 ++ [(w24.heap.size, .cells #[.int .i64 zb, .int .i64 0, .slice ra2 rl2 rc2] 38 (0, 0)), (w6.heap.size, .cells #[.int .i64 bs, .int .i64 e', .slice ra rl rc] 38 (0, 0))])) := by
            have h1 := Hp.mid (A := [(w24.heap.size, Obj.cells #[.int .i64 zb, .int .i64 0, .slice ra2 rl2 rc2] 38 (0, 0))]) (B := A22 ++ Ad22) (C := [(w6.heap.size, .cells #[.int .i64 bs, .int .i64 e', .slice ra rl rc] 38 (0, 0))]) (by simpa [List.append_assoc] using hbox2)
            simpa [List.append_assoc] using h1
          have H25 := Lib.hid hH25
          have HX2B := Lib.hid hx2b
          have HX2E := Lib.hid hx2e
          have HX2O := Lib.hid hx2o
          have HX2Y := Lib.hid hx2y
          have HX2V := Lib.hid hx2v
          have HS24 := Lib.hid (HS22.out.trans hs24)
          have HS24' := Lib.hid (HSS.out.trans hs24)
          have HC24 := Lib.hid (HC6.out.sub (HS22.out.trans hs24))
          have HSW := Lib.hid (HS6W.out.trans (HS22.out.trans hs24))
          clear hbox2 hp24 hs24 hrl2 hH24 c0 c1 hx2 hx2b hx2e hx2r hrok hx2o hx2y hx2v hH25
          obtain ⟨L0, s0, G0, hL0⟩ := HNE22.out
          have HL0 := Lib.hid hL0
          clear hL0
          by_cases hk0 : kl = 0
          · have HK0 := Lib.hid hk0
            clear hk0
            have k1 : ¬ (0 : Int) < (kl : Int) := by have := HK0.out; omega
            have hap := happend_on HC24.out HM22.out HO22.out (HD22.out.sub HS24'.out) HL0.out x2 HX2O.out HX2Y.out _ HX2V.out (by rw [HX2B.out]; exact HZB1.out) (by rw [HX2E.out, HK0.out]; exact Int.le_refl _) (by
              have := szB_le x2 HX2O.out
              obtain ⟨-, q2, q3, -⟩ := HSZ22.out
              omega) (by obtain ⟨-, -, -, q4⟩ := HSZ22.out; omega) H25.out
            have HAP := Lib.hid hap
            clear hap
            go_wp2_with fail
            refine HAP.out.mono ?_
            rintro e w30 ⟨rfl, P30, A30, Ad30, D30, h30, hs30, hM30, hD30, hO30, hA30, hH30⟩
            have HE30 := Lib.hid ((HC24.out.sub hs30).errs _ hH30.agr)
            have H30 := Lib.hid hH30
            have HSW30 := Lib.hid (HSW.out.trans hs30)
            clear hs30 hM30 hD30 hO30 hA30 hH30
            go_wp2_with fail
            refine (is_any HE30.out 0 (.inl rfl) 0).mono ?_
            rintro e w31 ⟨rfl, hb31⟩
            have HB31 := Lib.hid ((H30.out.below hb31 (Nat.le_refl _)).to_below HSW30.out)
            clear hb31
            go_wp2_with fail
            go_ret
            exact ⟨rfl, HB31.out⟩
          · have k1 : (0 : Int) < (kl : Int) := by omega
            have hne : h22.L ≠ [] := by rw [HL0.out]; simp
            have hend22 : h22.end_ = zb := (HO22.out.hend hne).trans HZB1.out.symm
            have hep22 : 0 < h22.ep := by
              unfold Hl.ep
              rw [HO22.out.fl]
              have hlk : (L.take kl).length = kl := by rw [List.length_take, HLL.out]; omega
              rcases snoc_cases (L.take kl) with h0 | ⟨l0, y, h0⟩
              · rw [h0] at hlk; simp at hlk; omega
              · have hy : y ∈ L := List.mem_of_mem_take (i := kl) (by rw [h0]; simp)
                rw [h0, epOf_snoc]
                have := HEP1.out y hy
                omega
            have hap := happend_shape HC24.out HM22.out hne HO22.out.W (by have := HO22.out.small.1; have h2 := HO22.out.fl; rw [h2]; omega) x2 HX2O.out (.inr ⟨by rw [HX2B.out, hend22], by rw [HX2E.out]; exact hep22⟩) _ HX2V.out H25.out
            have HAP := Lib.hid hap
            clear hap hne hend22 hep22 hk0
            go_wp2_with fail
            refine HAP.out.mono ?_
            rintro e w30 ⟨rfl, hH30⟩
            rw [← ev_some (errAt W) 2]
            have HE30 := Lib.hid (HC24.out.errs _ hH30.agr)
            have H30 := Lib.hid hH30
            clear hH30
            go_wp2_with fail
            refine (is_any HE30.out (101 + 2) (.inr (by omega)) 103).mono ?_
            rintro e w31 ⟨rfl, hb31⟩
            rw [show ((((101 + 2 : Nat) : Int)) == 103) = true from by decide]
            have HB31 := Lib.hid ((H30.out.below hb31 (Nat.le_refl _)).to_below HSW.out)
            clear hb31
            go_wp2_with fail
            go_ret
            exact ⟨rfl, HB31.out⟩
end Go.Proofs.YthocnhdefnbchaaGreatDoor.Sg

/-! Cy -/
namespace Go.Proofs.YthocnhdefnbchaaGreatDoor.Sg
open Go.RowKit Er

def l12 : List Nat := [0, 1, 2, 3, 4, 5, 6, 7, 8, 9, 12, 14]
theorem l12_all : ∀ i, i < 10 ∨ i = 14 → i ∈ l12 := by
  intro i hi
  rcases hi with hi | rfl
  · have : ∀ j : Fin 10, j.val ∈ l12 := by decide
    exact this ⟨i, hi⟩
  · decide
theorem l19_all2 : ∀ i, i < 10 ∨ i = 14 → i ∈ List.range 19 := by intro i hi; rw [List.mem_range]; omega

theorem tab_of2 {rest : List (String × DataW Unit)} {W : World} (h : laidMet Tryz.prog (("math/bits.deBruijn32tab", Rows.laid_math_bits_deBruijn32tab) :: ("math/bits.deBruijn64tab", Rows.laid_math_bits_deBruijn64tab) :: ("internal/strconv.uint64pow10", Rows.laid_internal_strconv_uint64pow10) :: rest) W) :
    Lib.TabIs Tryz.prog W "internal/strconv.uint64pow10" .u64 Lib.pow10Tab ∧ laidMet Tryz.prog rest W := by
  have h2 := laidMet.tail (laidMet.tail h)
  refine ⟨?_, laidMet.tail h2⟩
  exact Lib.tabIs_of_head (zs := Lib.pow10Tab) (k := .u64) (g := 19) (t := 284) (e := 155) (n := 20) (by kernel_rfl) (by kernel_rfl) (by kernel_rfl) (by kernel_rfl) (by kernel_rfl) (by kernel_rfl) h2
theorem hlaid12 {W : World} (h : laidMet Tryz.prog Rows.hotRecoversRow.laid W) (hsz : gmax ≤ W.heap.size) : Lib.TabIs Tryz.prog W "internal/strconv.uint64pow10" .u64 Lib.pow10Tab ∧ Errs l12 W (errAt W) W.heap.size := by
  obtain ⟨h1, h2⟩ := tab_of2 h
  exact ⟨h1, errs_of_laid l12 (by decide) h2 hsz⟩
theorem hlaid19 {W : World} (h : laidMet Tryz.prog Rows.hotReadsRow.laid W) (hsz : gmax ≤ W.heap.size) : Lib.TabIs Tryz.prog W "internal/strconv.uint64pow10" .u64 Lib.pow10Tab ∧ Errs (List.range 19) W (errAt W) W.heap.size := by
  obtain ⟨h1, h2⟩ := tab_of2 h
  exact ⟨h1, errs_of_laid (List.range 19) (by decide) h2 hsz⟩

end Go.Proofs.YthocnhdefnbchaaGreatDoor.Sg

/-! HotRefusesRow -/
namespace Go.Proofs.YthocnhdefnbchaaGreatDoor.hotRefuses
open Go.ChangeShapes Go.WideShapes Go.ChangeAt Go.RowKit
open Go.Proofs.YthocnhdefnbchaaGreatDoor.Sg
set_option linter.unusedVariables false
set_option maxRecDepth 100000 in
theorem contract (H : Type) (enc : TypeId × Value → H) (W : World) (base : Nat) (args : Array Value) (ds gs : List (DataW H)) (before : List MemPlace)
    (hval0 : ∀ (j : Nat) t v, Tryz.f5.params[j]? = some t → args[j]? = some v → Value.okWide Tryz.prog W .any base t v)
    (hW : DataW.Whole enc Tryz.prog Tryz.f5.params.toList Rows.hotRefusesSpec.vars false W args.toList ds gs before) (hL : laidMetH Tryz.prog Rows.hotRefusesRow.laid W) (hsh : W.ShapedOpen Tryz.prog) :
    Calls Tryz.prog 5 args W fun e W' => ∃ v, e = .returned v ∧ Rows.hotRefusesSpec.post enc Tryz.prog Tryz.f5 false true false false W args v W' := by
  have hval : ∀ (j : Nat) t v, Tryz.f5.params[j]? = some t → args[j]? = some v → Value.okWide Tryz.prog W .any base t v := hval0
  have hW' := hW
  obtain ⟨p, q, hA0, hV, rfl, hfz, hnd⟩ := hW
  have hA : DataW.TrodAll enc Tryz.prog W 0 (fun _ => true) true Tryz.f5.params.toList args.toList ds p := hA0
  rw [Tryz.params5] at hA hval
  obtain ⟨v0, vs0, d0, ds0, p0, q0, hargs, rfl, rfl, h0, r0⟩ := trodAll_cons hA
  obtain ⟨v1, vs1, d1, ds1, p1, q1, rfl, rfl, rfl, h1, r1⟩ := trodAll_cons r0
  obtain ⟨v2, vs2, d2, ds2, p2, q2, rfl, rfl, rfl, h2, r2⟩ := trodAll_cons r1
  obtain ⟨rfl, rfl, rfl⟩ := trodAll_nil r2
  obtain rfl : args = #[v0, v1, v2] := by cases args; simp_all
  obtain ⟨rfl, rfl⟩ := trodVars_none hV
  obtain ⟨a0, len0, cap0, rfl⟩ := okWide_slice Tryz.underlying50 (hval 0 50 v0 rfl rfl)
  have k0 := h0
  have lt0 : ∀ x ∈ p0, x.block < W.heap.size := by obtain ⟨m, hm⟩ := k0; exact DataW.trod_lt m _ _ _ hm
  obtain ⟨z0, w0⟩ : ∃ zs, IsRow W a0 len0 cap0 zs := by
    obtain ⟨fuel, hf⟩ := h0
    rcases open_ints Tryz.underlying50 Tryz.underlying3 (by kernel_rfl) hf with ⟨hcs, _⟩ | ⟨x, l, c, zs, hcs, _, hl, hm, hz, _, hcell, hwz⟩
    · simp [Value.cells] at hcs
      obtain ⟨rfl, rfl, rfl⟩ := hcs
      exact ⟨[], .inl ⟨rfl, rfl, rfl, rfl⟩⟩
    · simp [Value.cells] at hcs
      obtain ⟨rfl, rfl, rfl⟩ := hcs
      exact ⟨zs, .inr ⟨_, rfl, hl, hm, by simpa using hz, hcell, hwz⟩⟩
  obtain ⟨a1, rfl, rfl, rfl, w1⟩ := open_int Tryz.underlying2 (hval 1 2 v1 rfl rfl) h1
  obtain ⟨a2, rfl, rfl, rfl, w2⟩ := open_int Tryz.underlying3 (hval 2 3 v2 rfl rfl) h2
  have hL0 := hL
  rw [MakeChecks.laidMetH_plain _ _ _ (by kernel_rfl)] at hL0
  obtain ⟨hT, hE⟩ := hlaid19 (W := W) hL0 (Er.gmax_le hsh)
  clear hA0 hval0
  refine (hotrefuses_all a0 len0 cap0 z0 a1 a2 W w0 l19_all2 hE hT).mono fun e W' ⟨he, bel⟩ => ?_
  subst he
  exact ⟨_, rfl, _, _, _, [], _, [], hW', trodAll_mk1 (shut_bool Tryz.underlying4 _), (trodAll_cons_mk (Below.trod laidOut (by kernel_rfl) (of_decide_eq_true (by kernel_rfl)) k0 bel lt0) (trodAll_cons_mk (shut_int Tryz.underlying2 w1) (trodAll_cons_mk (shut_int Tryz.underlying3 w2) trodAll_mk0))), rfl, bel.frame _, fun h => by cases h⟩

set_option maxRecDepth 100000 in
theorem lifted (os : Os) (started : os.Started) (H : Type) (enc : TypeId × Value → H) (F : Stop.Interp) :
    ReturnsInHanded {} Tryz.checked os 5 .any ((OpenSpec.ofChange Rows.hotRefusesSpec).preRow enc Tryz.prog Tryz.f5 Rows.hotRefusesRow.domain false Rows.hotRefusesRow.laid) (((OpenSpec.ofChange Rows.hotRefusesSpec).at F).post enc Tryz.prog Tryz.f5 false true false false) := by
  obtain ⟨places, hx⟩ := reads os enc
  refine returnsInHanded_of_row (C := Tryz.checked) (s := OpenSpec.ofChange Rows.hotRefusesSpec) own started (by kernel_rfl) Tryz.func5
    (witness_row_atRef (enc := enc) (C := Tryz.checked) false (World.doorLaid Tryz.prog 400 os) #[.slice none 0 0, .int .i64 0, .int .i64 0] rfl (by kernel_rfl) (by kernel_rfl) (by kernel_rfl)
      (OpenSpec.preRow_of_cond 8 hx (by kernel_rfl) (fun k hk => by cases hk) (by kernel_rfl) (door_met os _))) ?_
  intro W base args ds gs before hval hW _ _ _ hL hsh _
  exact contract H enc W base args ds gs before hval hW hL hsh

theorem said : Rows.HotRefusesSaid :=
  OpenClaim.holds_of_cond 5 Tryz.f5 rfl rfl rfl rfl rfl rfl rfl ⟨rfl, rfl, rfl, rfl, rfl⟩ rfl rfl rfl rfl rfl (by kernel_rfl) Tryz.func5 closed
    (of_decide_eq_true (by kernel_rfl)) (by unfold Func.isWrapper; rw [if_neg (of_decide_eq_false (by kernel_rfl))]; exact ⟨rfl, rfl⟩)
    (fun os started H enc _ F => by rw [OpenClaim.pre_eq_preRow]; exact lifted os started H enc F)

theorem card : Rows.HotRefusesCardSaid :=
  Claim7.holds_tied_plain_at .later [] _ _ _ _ said (fun _ h => by cases h) (by kernel_rfl) (fun _ h => by cases h) hotRefuses_row_tie rfl ⟨rfl, rfl⟩ (by kernel_rfl) rfl plain (by kernel_rfl)

#print axioms card
end Go.Proofs.YthocnhdefnbchaaGreatDoor.hotRefuses
