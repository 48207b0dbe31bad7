/- cordwoodlaw22.KeepOpen answers true for every input. Conditions: none. -/
import Derived.Test.YtnbggdpbgibpoaaDoorKeepOpP
namespace Go.Proofs.YtnbggdpbgibpoaaDoor.Kp
open Go.RowKit Go.Proofs.YtnbggdpbgibpoaaDoor.Er

set_option maxHeartbeats 400000 in
theorem open_out (a : Option Addr) (n cap : Nat) (a0 : Int) (em : Bool) (w : World) (hn : n = 0 ∨ 20 < n) (hm : n ≤ 9223372036854775807) :
    Calls Tryd.prog 7 #[.slice a n cap, .int .i64 a0, .bool em] w fun e w' => e = .returned (.bool true) ∧ Below w.heap.size w w' := by
  rcases hn with rfl | hn
  · go_enter Tryd.func7, Tryd.ntmps7
    go_wp2_with fail
    refine (first_yes _).mono ?_
    rintro e w1 ⟨rfl, hb1⟩
    go_wp2_with fail
    go_ret
    exact ⟨rfl, hb1⟩
  · have e1 : decide ((20 : Int) < (n : Int)) = true := by simp; omega
    go_enter Tryd.func7, Tryd.ntmps7
    go_wp2_with fail
    refine (first_yes _).mono ?_
    rintro e w1 ⟨rfl, hb1⟩
    go_wp2_with fail
    go_ret
    exact ⟨rfl, hb1⟩

set_option maxHeartbeats 2000000 in
theorem open_in (b off n cap : Nat) (zs : List Int) (a0 : Int) (em : Bool) (w : World) (hn : 1 ≤ n) (hn2 : n ≤ 20) (hb : b < w.heap.size) (hz : ∀ i, i < n → w.cell? ⟨b, off + i, none⟩ = some (.int .i64 (zs.getD i 0)))
    {E : Nat → Addr} (hE : Errs (List.range 19) w E w.heap.size) :
    Calls Tryd.prog 7 #[.slice (some ⟨b, off, none⟩) n cap, .int .i64 a0, .bool em] w fun e w' => e = .returned (.bool true) ∧ Below w.heap.size w w' := by
  have e1 : decide ((20 : Int) < (n : Int)) = false := by simp; omega
  have e2 : ((n : Int) == 0) = false := by simp; omega
  obtain ⟨k, hk⟩ : ∃ j : Nat, a0 % (n : Int) = j := ⟨(a0 % (n : Int)).toNat, by have := Int.emod_nonneg a0 (b := (n : Int)) (by omega); omega⟩
  have hkn : k < n := by have := Int.emod_lt_of_pos a0 (b := (n : Int)) (by omega); omega
  have HK := Lib.hid hk
  have HE := Lib.hid hE
  clear hk hE
  go_enter Tryd.func7, Tryd.ntmps7
  go_wp2_with fail
  refine (first_yes _).mono ?_
  rintro e w1 ⟨rfl, hb1⟩
  have hw1 := hb1.size
  go_wp2_with fail
  refine (row_any b off n cap zs 0 _ (by omega) (by omega) (by omega) (by omega) (fun i hi => (hb1.cell hb).trans (hz i hi))).mono ?_
  rintro e w2 ⟨⟨v, rfl, hown⟩, hb2⟩
  obtain ⟨p, c, rfl, hpc, _, hp1, hp2, hat, cur, hcur⟩ := owned_slice hown hn (rowTo_len _ _ _ _)
  have hfr : ∀ o, w2.frozen? ⟨p, o, none⟩ = false := fun o => by simp [World.frozen?, hcur]
  have hgk := rowTo_get n 0 zs n k hkn
  have hat2 := segsAt_set (j := 4) (v := .bool false) (x' := { rowSeg n 0 k (zs.getD k 0) with s := false }) hat hgk (by omega) rfl
  rw [op_seal n k zs hkn] at hat2
  have ck : w2.cell? ⟨p, k * 7 + 4, none⟩ = some (.bool (decide (k + 1 < n))) := by have := (hat k _ hgk).2.2.2.2.1; simpa [rowSeg] using this
  have fk := hfr (k * 7 + 4)
  have HFR := Lib.hid hfr
  have HAT := Lib.hid hat2
  have HB := Lib.hid (hb1.trans (hb2.mono hw1))
  have hp0 : w.heap.size ≤ p := by omega
  clear hown hz hat hat2 hfr hcur hgk hb1 hb2 e1 e2
  go_wp2_with fail
  refine (number_any _ _ _ (by omega) (by omega)).mono ?_
  rw [HK.out]
  rintro e w' ⟨rfl, rfl⟩
  have hkn' : (k : Int) < (n : Int) := by omega
  have hn' : (1 : Int) ≤ (n : Int) := by omega
  go_upto_region 9 with fail
  generalize hw3 : w2.setCell ⟨p, k * 7 + 4, none⟩ (.bool false) = w3
  have hb3 : Below w.heap.size w w3 := by rw [← hw3]; exact HB.out.setCell hp0 _
  have hat3 : SegsAt w3 p 0 (opTo n k false zs) := by rw [← hw3]; exact HAT.out
  have hfr3 : ∀ o, w3.frozen? ⟨p, o, none⟩ = false := fun o => by rw [← hw3, World.frozen?_setCell]; exact HFR.out o
  have hp3 : p < w3.heap.size := by rw [← hw3]; simp; exact hp2
  clear hw3 HAT HB HFR ck fk
  have HB := Lib.hid hb3
  have HAT := Lib.hid hat3
  have HFR := Lib.hid hfr3
  clear hb3 hat3 hfr3
  have gl := opTo_get n k false zs (n - 1) (by omega)
  cases em
  · have hlen := opTo_len n k false zs
    have hst := op_start n k false zs hkn k 0 0 (by omega) (by omega)
    rw [List.drop_zero, Int.max_eq_right (by omega)] at hst
    have hlv := op_leave n k false zs 0 hkn k 0 true (by omega)
    rw [List.drop_zero] at hlv
    have hf := op_fair n k false zs (by omega)
    have hgk : ∃ x, (opTo n k false zs)[k]? = some x ∧ x.b = 10 * (k : Int) := ⟨_, opTo_get n k false zs k hkn, rfl⟩
    have hg0 : ∃ x, (opTo n k false zs)[0]? = some x ∧ x.b = 0 := ⟨_, opTo_get n k false zs 0 (by omega), rfl⟩
    have HF := Lib.hid hf
    have HST := Lib.hid hst
    have HLV := Lib.hid hlv
    have HGK := Lib.hid hgk
    have HG0 := Lib.hid hg0
    clear hf hst hlv hgk hg0 gl
    generalize opTo n k false zs = L at *
    subst hlen
    have hwW : w.heap.size ≤ w3.heap.size := HB.out.size
    go_wp2_with fail
    refine (start_yes (-1) (-1) 0 1073741824 0 p 0 c L _ (by omega) hpc (by omega) HAT.out HF.out (by omega) (by omega) (by omega) (by omega) (by omega) (by omega) (by omega) (by omega) (by omega) (by omega)).mono ?_
    rw [HST.out]
    rintro e w6 ⟨rfl, hb6⟩
    have hw6 := hb6.size
    go_wp2_with fail
    refine (leave_yes 0 (-1) (-1) p 0 c L _ (by omega) hpc (by omega) (HAT.out.below hb6 (by omega)) HF.out (by omega) (by omega) (by omega) (by omega) (by omega) (by omega)).mono ?_
    rintro e w7 ⟨⟨v7, rfl, hown7⟩, hb7⟩
    obtain ⟨a7, c7, rfl⟩ := owns_shape hown7
    have hw7 := hb7.size
    have hb67 := hb6.trans (hb7.mono hw6)
    have hat7 := HAT.out.below hb67 (by omega)
    have hfr7 : ∀ o, w7.frozen? ⟨p, o, none⟩ = false := fun o => (hb67.frozen (p := ⟨p, o, none⟩) (by show p < _; omega)).trans (HFR.out o)
    have HB7 := Lib.hid (HB.out.trans (hb67.mono hwW))
    have hl7 := HLV.out
    generalize (leaveP 0 true L).length = l7 at *
    obtain ⟨xk, hxk, hxb⟩ := HGK.out
    have ck := (hat7 k xk hxk).1
    rw [hxb, Nat.zero_add] at ck
    have e3 : decide (k < l7) = false := by simp; omega
    have e4 : (10 * (k : Int) != 10 * (k : Int)) = false := by simp
    have HAT7 := Lib.hid hat7
    have HFR7 := Lib.hid hfr7
    clear hown7 hb6 hb7 hb67 hat7 hfr7 hxk hxb
    by_cases hn1 : 1 < L.length
    · have e5 : decide (1 < L.length) = true := by simp; omega
      have e6 : decide ((1 : Int) < (L.length : Int)) = true := by simp; omega
      obtain ⟨x0, hx0, hxb⟩ := HG0.out
      have c0 := (HAT7.out 0 x0 hx0).1
      have c1 := (HAT7.out 0 x0 hx0).2.1
      simp only [Nat.zero_mul, Nat.zero_add] at c0 c1
      have g1 := HFR7.out 1
      have hat8 := segsAt_set (j := 1) (v := .int .i64 x0.b) (x' := { x0 with e := x0.b }) HAT7.out hx0 (by omega) rfl
      rw [show 0 * 7 + 1 = 1 from rfl] at hat8
      have HAT8 := Lib.hid hat8
      have HX0 := Lib.hid hx0
      have i0 : (0 : Int) < (L.length : Int) := by omega
      clear hat8 hx0 hxb
      go_upto_region 18 with fail
      generalize hw8 : w7.setCell ⟨p, 1, none⟩ (.int .i64 x0.b) = w8
      have hb8 : Below w.heap.size w w8 := by rw [← hw8]; exact HB7.out.setCell hp0 _
      have hat8 : SegsAt w8 p 0 (L.set 0 { x0 with e := x0.b }) := by rw [← hw8]; exact HAT8.out
      have hp8 : p < w8.heap.size := by rw [← hw8]; simp; omega
      clear hw8 HAT8 HB7 HFR7 HAT7 c0 c1 g1 ck
      have HB8 := Lib.hid hb8
      have HAT8 := Lib.hid hat8
      have hw8 := hb8.size
      clear hb8 hat8
      go_wp2_with fail
      refine (start_bad (HE.out.below HB8.out) (by decide) p c L.length { x0 with e := x0.b } (L.set 0 { x0 with e := x0.b }) (by simp) (by omega) hn1 hp8 HAT8.out ?_ (List.getElem?_set_self (by omega)) rfl).mono ?_
      · intro y hy
        obtain ⟨j, hj⟩ := List.getElem?_of_mem hy
        by_cases ej : j = 0
        · subst ej
          rw [List.getElem?_set_self (by omega)] at hj
          obtain rfl := Option.some.inj hj
          have := HF.out.ok x0 (List.mem_of_getElem? HX0.out)
          unfold Sg.ok at *
          exact ⟨this.1, this.2.1, this.1, this.2.1, this.2.2.2.2⟩
        · rw [List.getElem?_set_ne (by omega)] at hj
          exact HF.out.ok y (List.mem_of_getElem? hj)
      rintro e w9 ⟨rfl, hb9⟩
      have hE9 := HE.out.below (HB8.out.trans (hb9.mono hw8))
      have HE9 := Lib.hid hE9
      clear hE9
      generalize hev : ev E 103 = er
      have HEV := Lib.hid hev
      clear hev
      go_wp2_with fail
      rw [← HEV.out]
      refine (is_any HE9.out 103 (.inr (by omega)) 103).mono ?_
      rintro e w10 ⟨rfl, hb10⟩
      go_wp2_with fail
      go_ret
      exact ⟨rfl, HB8.out.trans ((hb9.mono hw8).trans (hb10.mono (by have := hb9.size; omega)))⟩
    · have e5 : decide (1 < L.length) = false := by simp; omega
      have e6 : decide ((1 : Int) < (L.length : Int)) = false := by simp; omega
      go_wp2_with fail
      go_ret
      exact ⟨rfl, HB7.out⟩
  · have hat3 := HAT.out
    have d0 : w3.cell? ⟨p, (n - 1) * 7, none⟩ = some (.int .i64 (10 * ((n - 1 : Nat) : Int))) := by have := (hat3 _ _ gl).1; simpa [opSeg] using this
    have d1 : w3.cell? ⟨p, (n - 1) * 7 + 1, none⟩ = some (.int .i64 (10 * ((n - 1 : Nat) : Int) + 10)) := by have := (hat3 _ _ gl).2.1; simpa [opSeg] using this
    have g1 := HFR.out ((n - 1) * 7 + 1)
    have hat4 := segsAt_set (j := 1) (v := .int .i64 (10 * ((n - 1 : Nat) : Int))) (x' := { opSeg n k false (n - 1) (zs.getD (n - 1) 0) with e := 10 * ((n - 1 : Nat) : Int) }) hat3 gl (by omega) rfl
    have HAT4 := Lib.hid hat4
    clear hat3 hat4 HAT
    generalize hq : 10 * ((n - 1 : Nat) : Int) = q at *
    have HQ := Lib.hid hq
    clear hq
    go_upto_region 11 with fail
    generalize hw4 : w3.setCell ⟨p, (n - 1) * 7 + 1, none⟩ (.int .i64 q) = w4
    have hb4 : Below w.heap.size w w4 := by rw [← hw4]; exact HB.out.setCell hp0 _
    have hat4 : SegsAt w4 p 0 ((opTo n k false zs).set (n - 1) { opSeg n k false (n - 1) (zs.getD (n - 1) 0) with e := q }) := by rw [← hw4]; exact HAT4.out
    have hfr4 : ∀ o, w4.frozen? ⟨p, o, none⟩ = false := fun o => by rw [← hw4, World.frozen?_setCell]; exact HFR.out o
    have hp4 : p < w4.heap.size := by rw [← hw4]; simp; exact hp3
    clear hw4 HAT4 HB HFR d0 d1 g1
    have gl4 : ((opTo n k false zs).set (n - 1) { opSeg n k false (n - 1) (zs.getD (n - 1) 0) with e := q })[n - 1]? = some { opSeg n k false (n - 1) (zs.getD (n - 1) 0) with e := q } := List.getElem?_set_self (by rw [opTo_len]; omega)
    obtain ⟨u, d2⟩ : ∃ u, w4.cell? ⟨p, (n - 1) * 7 + 2, none⟩ = some (.int .i64 u) := by have := (hat4 _ _ gl4).2.2.1; rw [Nat.zero_add] at this; exact ⟨_, this⟩
    have g2 := hfr4 ((n - 1) * 7 + 2)
    have hat5 := segsAt_set (j := 2) (v := .int .i64 0) (x' := { opSeg n k false (n - 1) (zs.getD (n - 1) 0) with e := q, z := 0 }) hat4 gl4 (by omega) rfl
    rw [← HQ.out, op_empty n k zs hn] at hat5
    have HAT := Lib.hid hat5
    have HB := Lib.hid hb4
    have HFR := Lib.hid hfr4
    clear hat4 hat5 hb4 hfr4 gl4
    go_upto_region 12 with fail
    generalize hw5 : w4.setCell ⟨p, (n - 1) * 7 + 2, none⟩ (.int .i64 0) = w5
    have hb5 : Below w.heap.size w w5 := by rw [← hw5]; exact HB.out.setCell hp0 _
    have hat5 : SegsAt w5 p 0 (opTo n k true zs) := by rw [← hw5]; exact HAT.out
    have hfr5 : ∀ o, w5.frozen? ⟨p, o, none⟩ = false := fun o => by rw [← hw5, World.frozen?_setCell]; exact HFR.out o
    have hp5 : p < w5.heap.size := by rw [← hw5]; simp; exact hp4
    clear hw5 HAT HB HFR d2 g2
    have HB := Lib.hid hb5
    have HAT := Lib.hid hat5
    have HFR := Lib.hid hfr5
    clear hb5 hat5 hfr5
    have hlen := opTo_len n k true zs
    have hst := op_start n k true zs hkn k 0 0 (by omega) (by omega)
    rw [List.drop_zero, Int.max_eq_right (by omega)] at hst
    have hlv := op_leave n k true zs 0 hkn k 0 true (by omega)
    rw [List.drop_zero] at hlv
    have hf := op_fair n k true zs (by omega)
    have hgk : ∃ x, (opTo n k true zs)[k]? = some x ∧ x.b = 10 * (k : Int) := ⟨_, opTo_get n k true zs k hkn, rfl⟩
    have hg0 : ∃ x, (opTo n k true zs)[0]? = some x ∧ x.b = 0 := ⟨_, opTo_get n k true zs 0 (by omega), rfl⟩
    have HF := Lib.hid hf
    have HST := Lib.hid hst
    have HLV := Lib.hid hlv
    have HGK := Lib.hid hgk
    have HG0 := Lib.hid hg0
    clear hf hst hlv hgk hg0 gl
    generalize opTo n k true zs = L at *
    subst hlen
    have hwW : w.heap.size ≤ w5.heap.size := HB.out.size
    go_wp2_with fail
    refine (start_yes (-1) (-1) 0 1073741824 0 p 0 c L _ (by omega) hpc (by omega) HAT.out HF.out (by omega) (by omega) (by omega) (by omega) (by omega) (by omega) (by omega) (by omega) (by omega) (by omega)).mono ?_
    rw [HST.out]
    rintro e w6 ⟨rfl, hb6⟩
    have hw6 := hb6.size
    go_wp2_with fail
    refine (leave_yes 0 (-1) (-1) p 0 c L _ (by omega) hpc (by omega) (HAT.out.below hb6 (by omega)) HF.out (by omega) (by omega) (by omega) (by omega) (by omega) (by omega)).mono ?_
    rintro e w7 ⟨⟨v7, rfl, hown7⟩, hb7⟩
    obtain ⟨a7, c7, rfl⟩ := owns_shape hown7
    have hw7 := hb7.size
    have hb67 := hb6.trans (hb7.mono hw6)
    have hat7 := HAT.out.below hb67 (by omega)
    have hfr7 : ∀ o, w7.frozen? ⟨p, o, none⟩ = false := fun o => (hb67.frozen (p := ⟨p, o, none⟩) (by show p < _; omega)).trans (HFR.out o)
    have HB7 := Lib.hid (HB.out.trans (hb67.mono hwW))
    have hl7 := HLV.out
    generalize (leaveP 0 true L).length = l7 at *
    obtain ⟨xk, hxk, hxb⟩ := HGK.out
    have ck := (hat7 k xk hxk).1
    rw [hxb, Nat.zero_add] at ck
    have e3 : decide (k < l7) = false := by simp; omega
    have e4 : (10 * (k : Int) != 10 * (k : Int)) = false := by simp
    have HAT7 := Lib.hid hat7
    have HFR7 := Lib.hid hfr7
    clear hown7 hb6 hb7 hb67 hat7 hfr7 hxk hxb
    by_cases hn1 : 1 < L.length
    · have e5 : decide (1 < L.length) = true := by simp; omega
      have e6 : decide ((1 : Int) < (L.length : Int)) = true := by simp; omega
      obtain ⟨x0, hx0, hxb⟩ := HG0.out
      have c0 := (HAT7.out 0 x0 hx0).1
      have c1 := (HAT7.out 0 x0 hx0).2.1
      simp only [Nat.zero_mul, Nat.zero_add] at c0 c1
      have g1 := HFR7.out 1
      have hat8 := segsAt_set (j := 1) (v := .int .i64 x0.b) (x' := { x0 with e := x0.b }) HAT7.out hx0 (by omega) rfl
      rw [show 0 * 7 + 1 = 1 from rfl] at hat8
      have HAT8 := Lib.hid hat8
      have HX0 := Lib.hid hx0
      have i0 : (0 : Int) < (L.length : Int) := by omega
      clear hat8 hx0 hxb
      go_upto_region 18 with fail
      generalize hw8 : w7.setCell ⟨p, 1, none⟩ (.int .i64 x0.b) = w8
      have hb8 : Below w.heap.size w w8 := by rw [← hw8]; exact HB7.out.setCell hp0 _
      have hat8 : SegsAt w8 p 0 (L.set 0 { x0 with e := x0.b }) := by rw [← hw8]; exact HAT8.out
      have hp8 : p < w8.heap.size := by rw [← hw8]; simp; omega
      clear hw8 HAT8 HB7 HFR7 HAT7 c0 c1 g1 ck
      have HB8 := Lib.hid hb8
      have HAT8 := Lib.hid hat8
      have hw8 := hb8.size
      clear hb8 hat8
      go_wp2_with fail
      refine (start_bad (HE.out.below HB8.out) (by decide) p c L.length { x0 with e := x0.b } (L.set 0 { x0 with e := x0.b }) (by simp) (by omega) hn1 hp8 HAT8.out ?_ (List.getElem?_set_self (by omega)) rfl).mono ?_
      · intro y hy
        obtain ⟨j, hj⟩ := List.getElem?_of_mem hy
        by_cases ej : j = 0
        · subst ej
          rw [List.getElem?_set_self (by omega)] at hj
          obtain rfl := Option.some.inj hj
          have := HF.out.ok x0 (List.mem_of_getElem? HX0.out)
          unfold Sg.ok at *
          exact ⟨this.1, this.2.1, this.1, this.2.1, this.2.2.2.2⟩
        · rw [List.getElem?_set_ne (by omega)] at hj
          exact HF.out.ok y (List.mem_of_getElem? hj)
      rintro e w9 ⟨rfl, hb9⟩
      have hE9 := HE.out.below (HB8.out.trans (hb9.mono hw8))
      have HE9 := Lib.hid hE9
      clear hE9
      generalize hev : ev E 103 = er
      have HEV := Lib.hid hev
      clear hev
      go_wp2_with fail
      rw [← HEV.out]
      refine (is_any HE9.out 103 (.inr (by omega)) 103).mono ?_
      rintro e w10 ⟨rfl, hb10⟩
      go_wp2_with fail
      go_ret
      exact ⟨rfl, HB8.out.trans ((hb9.mono hw8).trans (hb10.mono (by have := hb9.size; omega)))⟩
    · have e5 : decide (1 < L.length) = false := by simp; omega
      have e6 : decide ((1 : Int) < (L.length : Int)) = false := by simp; omega
      go_wp2_with fail
      go_ret
      exact ⟨rfl, HB7.out⟩

theorem open_all (a : Option Addr) (n cap : Nat) (zs : List Int) {E : Nat → Addr} (a0 : Int) (em : Bool) (w : World) (h : IsRow w a n cap zs) (hE : Errs (List.range 19) w E w.heap.size) :
    Calls Tryd.prog 7 #[.slice a n cap, .int .i64 a0, .bool em] w fun e w' => e = .returned (.bool true) ∧ Below w.heap.size w w' := by
  rcases h with ⟨rfl, rfl, rfl, rfl⟩ | ⟨x, rfl, hl, hm, hz, hcell, hwz⟩
  · exact open_out _ _ _ _ _ _ (.inl rfl) (by omega)
  · by_cases hn : n = 0 ∨ 20 < n
    · exact open_out _ _ _ _ _ _ hn (by unfold maxLen at hm; omega)
    · obtain ⟨b, off, hx, hb, hc⟩ := row_open hcell (by omega)
      rw [hx]
      exact open_in b off n cap zs a0 em w (by omega) (by omega) hb (fun i hi => hc i (by omega)) hE

end Go.Proofs.YtnbggdpbgibpoaaDoor.Kp
