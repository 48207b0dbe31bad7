/- index.right; an index in memory. index.Add. crc.Seal; index.Bytes. seg.Time. The index of batches; seg.Index. cordwoodref1.Time. append of bytes, in parts of memory; a read out of range; the greatest time of Row's batches. cordwoodlaw10.all, joined; Row's batches of at most thirty numbers; the segments' triples. Log.of, Raw, Time, Marks. -/
import Derived.Test.YtepmblomgmghcaaGreatDoorMg
import Derived.Test.YtepmblomgmghcaaGreatDoorMi
import Derived.Test.YtepmblomgmghcaaGreatDoorMl
import Derived.Test.YtepmblomgmghcaaGreatDoorMe
import Derived.ChangeKeysEq

/-! Ia -/
namespace Go.Proofs.YtepmblomgmghcaaGreatDoor.Sg
open Go.RowKit Er Go.Maps

/-- An index: how often, its marks (offset, time, place), what was added (offset, place), the greatest time. -/
structure Ix where
  every : Nat
  marks : List (Int × Int × Nat)
  adds : List (Int × Nat)
  tm : Int
def mkV (m : Int × Int × Nat) : List Value := [.int .i64 m.1, .int .i64 m.2.1, .int .i64 m.2.2]
def adV (m : Int × Nat) : List Value := [.int .i64 m.1, .int .i64 0, .int .i64 m.2]
def mksV (l : List (Int × Int × Nat)) : List Value := l.flatMap mkV
def adsV (l : List (Int × Nat)) : List Value := l.flatMap adV
theorem mksV_app (l m : List (Int × Int × Nat)) : mksV (l ++ m) = mksV l ++ mksV m := by simp [mksV]
theorem adsV_app (l m : List (Int × Nat)) : adsV (l ++ m) = adsV l ++ adsV m := by simp [adsV]
def ixC (X : Ix) (mv av : Value) : Array Value := #[.int .i64 X.every, mv, av, .int .i64 X.tm]
/-- An index's blocks: its own one, its marks', its adds'. -/
def IxM (i : Nat) (X : Ix) (A : Mm) : Prop := ∃ mv av Am Aa, A = (i, Obj.cells (ixC X mv av) 192 (0, 0)) :: (Am ++ Aa) ∧ RowM 206 3 mv X.marks.length (mksV X.marks) Am ∧ RowM 206 3 av X.adds.length (adsV X.adds) Aa

set_option maxRecDepth 100000 in
theorem iright_ok (o t : Int) (p : Nat) (w : World) (h1 : 0 ≤ o) (h2 : o ≤ 1099511627776) (h3 : -1099511627776 ≤ t) (h4 : t ≤ 1099511627776) (h5 : p ≤ 1073741824) :
    Calls Tryz.prog 179 #[.agg #[.int .i64 o, .int .i64 t, .int .i64 p]] w fun e w' => e = .returned (.bool true) ∧ Below w.heap.size w w' := by
  have i5 : (p : Int) ≤ 1073741824 := by omega
  have i6 : (0 : Int) ≤ (p : Int) := by omega
  go_enter Tryz.func179, Tryz.ntmps179
  go_wp2_with fail
  go_ret
  exact ⟨rfl, (Below.refl _ _).alloc (Nat.le_refl _) _⟩

theorem infoMk : (Tryz.prog.info? 206).map (fun i => (i.zero, i.size, i.bytes)) = some (some (.agg #[.int .i64 0, .int .i64 0, .int .i64 0]), 3, 24) := by kernel_rfl

end Go.Proofs.YtepmblomgmghcaaGreatDoor.Sg

/-! Ib -/
namespace Go.Proofs.YtepmblomgmghcaaGreatDoor.Sg
open Go.RowKit Er Go.Maps

def Ix.lastP (X : Ix) : Nat := match X.marks.getLast? with | none => 0 | some m => m.2.2
/-- Whether there is a mark more. -/
def Ix.more (X : Ix) (p : Nat) : Bool := X.marks.isEmpty || decide (X.lastP + X.every ≤ p)
def Ix.add (X : Ix) (o t : Int) (p : Nat) : Ix := ⟨X.every, if X.more p then X.marks ++ [(o, max X.tm t, p)] else X.marks, X.adds ++ [(o, p)], max X.tm t⟩
/-- What may be added. -/
structure IxOk (X : Ix) (o t : Int) (p : Nat) : Prop where
  o0 : 0 ≤ o
  o1 : o ≤ 1099511627776
  t0 : -1099511627776 ≤ t
  t1 : t ≤ 1099511627776
  p1 : p ≤ 1073741824
  la : X.adds.length ≤ 1000000
  lm : X.marks.length ≤ 1000000
  fa : ∀ l q, X.adds = l ++ [q] → q.1 < o ∧ q.2 < p
  fm : ∀ l q, X.marks = l ++ [q] → q.2.2 ≤ p
  ev : X.every ≤ 1048576

theorem lastOf {α : Type} (l : List α) : l = [] ∨ ∃ m x, l = m ++ [x] := by
  rcases List.eq_nil_or_concat l with h | ⟨m, x, h⟩
  · exact .inl h
  · exact .inr ⟨m, x, by rw [h, List.concat_eq_append]⟩

section
variable {P : Pm} {ix : Nat} {X : Ix} {A F : Mm} {w : World}

/-- The cells of an index. -/
theorem IxM.cells (h : IxM ix X A) (hH : Hp w P (A ++ F)) : ∃ ma mc aa ac, w.cell? ⟨ix, 0, none⟩ = some (.int .i64 X.every) ∧ w.cell? ⟨ix, 1, none⟩ = some (.slice ma X.marks.length mc) ∧ w.cell? ⟨ix, 2, none⟩ = some (.slice aa X.adds.length ac) ∧
    w.cell? ⟨ix, 3, none⟩ = some (.int .i64 X.tm) ∧ (∀ j, w.frozen? ⟨ix, j, none⟩ = false) ∧ ix < w.heap.size := by
  obtain ⟨mv, av, Am, Aa, rfl, hm, ha⟩ := h
  obtain ⟨ma, mc, rfl⟩ := hm.shape
  obtain ⟨aa, ac, rfl⟩ := ha.shape
  have hb : (ix, Obj.cells (ixC X (.slice ma X.marks.length mc) (.slice aa X.adds.length ac)) 192 (0, 0)) ∈ (ix, Obj.cells (ixC X (.slice ma X.marks.length mc) (.slice aa X.adds.length ac)) 192 (0, 0)) :: (Am ++ Aa) ++ F := by simp
  exact ⟨ma, mc, aa, ac, hH.cell hb rfl, hH.cell hb rfl, hH.cell hb rfl, hH.cell hb rfl, hH.frozen hb, hH.lt hb⟩

set_option maxRecDepth 100000 in
set_option maxHeartbeats 8000000 in
theorem iadd_ok (hI : IxM ix X A) (o t : Int) (p n : Nat) (hok : IxOk X o t p) (hn1 : 1 ≤ n) (hn2 : n ≤ 1099511627776) (hH : Hp w P (A ++ F)) :
    Calls Tryz.prog 151 #[ptr ix, .int .i64 o, .int .i64 t, .int .i64 p, .int .i64 n] w fun e w' => e = .returned .nilIface ∧ ∃ A', IxM ix (X.add o t p) A' ∧ Hp w' P (A' ++ F) := by
  obtain ⟨mv, av, Am, Aa, rfl, hm, ha⟩ := hI
  obtain ⟨ma, mc, rfl⟩ := hm.shape
  obtain ⟨aa, ac, rfl⟩ := ha.shape
  obtain ⟨bx, hbx⟩ : ∃ bx, w.heap.size = bx := ⟨_, rfl⟩
  have hH0 := hH.alloc (.cells #[.int .i64 o, .int .i64 t, .int .i64 p] 206)
  obtain ⟨la, hla⟩ : ∃ la, X.adds.length = la := ⟨_, rfl⟩
  obtain ⟨lm, hlm⟩ : ∃ lm, X.marks.length = lm := ⟨_, rfl⟩
  have q1 := hok.la
  have q2 := hok.lm
  rw [hla] at q1 ha hH0
  rw [hlm] at q2 hm hH0
  have H0 := Lib.hid hH0
  have HA := Lib.hid ha
  have HM := Lib.hid hm
  have HLA := Lib.hid hla
  have HLM := Lib.hid hlm
  have HOK := Lib.hid hok
  have HBX := Lib.hid hbx
  have i3 : ¬ (n : Int) < 1 := by omega
  clear hH hH0 ha hm hla hlm hok hbx
  go_enter Tryz.func151, Tryz.ntmps151
  go_wp2_with fail
  refine (iright_ok o t p _ HOK.out.o0 HOK.out.o1 HOK.out.t0 HOK.out.t1 HOK.out.p1).mono ?_
  rintro e w1 ⟨rfl, hb1⟩
  have hH1 := H0.out.below hb1 (Nat.le_refl _)
  have hH1m : Hp w1 P ((ix, Obj.cells (ixC X (.slice ma lm mc) (.slice aa la ac)) 192 (0, 0)) :: ((bx, Obj.cells #[.int .i64 o, .int .i64 t, .int .i64 p] 206 (0, 0)) :: (Am ++ (Aa ++ F)))) := by
    have h1 := Hp.mid (A := [(w.heap.size, Obj.cells #[.int .i64 o, .int .i64 t, .int .i64 p] 206 (0, 0))]) (B := [(ix, Obj.cells (ixC X (.slice ma lm mc) (.slice aa la ac)) 192 (0, 0))]) (C := Am ++ (Aa ++ F)) (by simpa using hH1)
    rw [← HBX.out]
    simpa using h1
  rw [HBX.out]
  have k0 : w1.cell? ⟨ix, 0, none⟩ = some (.int .i64 X.every) := (@Hp.cell _ _ _ hH1m ix _ _ (0, 0) List.mem_cons_self) (i := 0) rfl
  have k1 : w1.cell? ⟨ix, 1, none⟩ = some (.slice ma lm mc) := (@Hp.cell _ _ _ hH1m ix _ _ (0, 0) List.mem_cons_self) (i := 1) rfl
  have k2 : w1.cell? ⟨ix, 2, none⟩ = some (.slice aa la ac) := (@Hp.cell _ _ _ hH1m ix _ _ (0, 0) List.mem_cons_self) (i := 2) rfl
  have k3 : w1.cell? ⟨ix, 3, none⟩ = some (.int .i64 X.tm) := (@Hp.cell _ _ _ hH1m ix _ _ (0, 0) List.mem_cons_self) (i := 3) rfl
  have kf0 := @Hp.frozen _ _ _ hH1m ix _ _ List.mem_cons_self 1
  have kf1 := @Hp.frozen _ _ _ hH1m ix _ _ List.mem_cons_self 2
  have kf2 := @Hp.frozen _ _ _ hH1m ix _ _ List.mem_cons_self 3
  have b0 : w1.cell? ⟨bx, 0, none⟩ = some (.int .i64 o) := (@Hp.cell _ _ _ hH1m bx _ _ (0, 0) (List.mem_cons_of_mem _ List.mem_cons_self)) (i := 0) rfl
  have b1 : w1.cell? ⟨bx, 1, none⟩ = some (.int .i64 t) := (@Hp.cell _ _ _ hH1m bx _ _ (0, 0) (List.mem_cons_of_mem _ List.mem_cons_self)) (i := 1) rfl
  have b2 : w1.cell? ⟨bx, 2, none⟩ = some (.int .i64 p) := (@Hp.cell _ _ _ hH1m bx _ _ (0, 0) (List.mem_cons_of_mem _ List.mem_cons_self)) (i := 2) rfl
  have bf := @Hp.frozen _ _ _ hH1m bx _ _ (List.mem_cons_of_mem _ List.mem_cons_self) 1
  have H1 := Lib.hid hH1m
  have hAH : Hp w1 P (Aa ++ ((ix, Obj.cells (ixC X (.slice ma lm mc) (.slice aa la ac)) 192 (0, 0)) :: ((bx, Obj.cells #[.int .i64 o, .int .i64 t, .int .i64 p] 206 (0, 0)) :: (Am ++ F)))) := by
    have h1 := Hp.mid (A := (ix, Obj.cells (ixC X (.slice ma lm mc) (.slice aa la ac)) 192 (0, 0)) :: (bx, Obj.cells #[.int .i64 o, .int .i64 t, .int .i64 p] 206 (0, 0)) :: Am) (B := Aa) (C := F) (by simpa using H1.out)
    simpa using h1
  have HAH := Lib.hid hAH
  clear hH1 hb1 hAH
  rcases lastOf X.adds with hA | ⟨a0, q, hA⟩
  case' inl =>
    have hla0 : la = 0 := by rw [← HLA.out, hA]; rfl
    have i2 : ¬ (0 : Int) < (la : Int) := by omega
    have HA0 := Lib.hid hla0
    clear hla0 hA hH1m
    go_wp2_with (at_builtin; refine wpList_push_hp rfl _ _ _ rfl 206 _ 3 24 Tryz.underlying190 infoMk rfl (by omega) (.slice aa la ac) la (adsV X.adds) rfl HAH.out HA.out #[.int .i64 o, .int .i64 0, .int .i64 p] rfl rfl (by intro u hu; simp at hu; rcases hu with rfl | rfl | rfl <;> rfl) (by omega) (by omega) ?_)
  case' inr =>
    obtain ⟨hq1, hq2⟩ := HOK.out.fa a0 q hA
    have hla1 : la = a0.length + 1 := by rw [← HLA.out, hA]; simp
    obtain ⟨j, hj⟩ : ∃ j, a0.length = j := ⟨_, rfl⟩
    rw [hj] at hla1
    have e1 : X.adds.length = j + 1 := by rw [HLA.out]; exact hla1
    have hz : (adsV X.adds)[j * 3]? = some (.int .i64 q.1) ∧ (adsV X.adds)[j * 3 + 2]? = some (.int .i64 q.2) := by
      have hl : (adsV a0).length = j * 3 := by rw [← hj]; clear hA hj; induction a0 with
        | nil => rfl
        | cons x l ih => simp only [adsV, List.flatMap_cons, List.length_append, List.length_cons] at ih ⊢; rw [ih]; simp [adV]; omega
      rw [hA, adsV_app]
      constructor
      · rw [List.getElem?_append_right (by omega), hl]; simp [adsV, adV]
      · rw [List.getElem?_append_right (by omega), hl]; simp [adsV, adV]
    obtain ⟨ga, ca, hs1, hc1, y0⟩ := HA.out.cell HAH.out hz.1
    obtain ⟨ga', ca', hs2, -, y2⟩ := HA.out.cell HAH.out hz.2
    rw [hs1] at hs2
    cases hs2
    cases hs1
    subst hla1
    have i2 : (0 : Int) < ((j + 1 : Nat) : Int) := by omega
    have i4 : ¬ o ≤ q.1 := by omega
    have i5 : ¬ (p : Int) ≤ (q.2 : Int) := by omega
    clear hA hj e1 hz hH1m
    go_wp2_with (at_builtin; refine wpList_push_hp rfl _ _ _ rfl 206 _ 3 24 Tryz.underlying190 infoMk rfl (by omega) (.slice (some ⟨ga, 0, none⟩) (j + 1) ac) (j + 1) (adsV X.adds) rfl HAH.out HA.out #[.int .i64 o, .int .i64 0, .int .i64 p] rfl rfl (by intro u hu; simp at hu; rcases hu with rfl | rfl | rfl <;> rfl) (by omega) (by omega) ?_)
  all_goals
    intro g7 c7 w7 A7 hr7 hH7
    have hH7i := Hp.mid (A := A7) (B := [(ix, _)]) hH7
    clear k0 k1 k2 k3 kf0 kf1 kf2 b0 b1 b2 bf
    have k0 : w7.cell? ⟨ix, 0, none⟩ = some (.int .i64 X.every) := (@Hp.cell _ _ _ hH7i ix _ _ (0, 0) List.mem_cons_self) (i := 0) rfl
    have k1 : w7.cell? ⟨ix, 1, none⟩ = some (.slice ma lm mc) := (@Hp.cell _ _ _ hH7i ix _ _ (0, 0) List.mem_cons_self) (i := 1) rfl
    have k2 : w7.cell? ⟨ix, 2, none⟩ = some _ := (@Hp.cell _ _ _ hH7i ix _ _ (0, 0) List.mem_cons_self) (i := 2) rfl
    have k3 : w7.cell? ⟨ix, 3, none⟩ = some (.int .i64 X.tm) := (@Hp.cell _ _ _ hH7i ix _ _ (0, 0) List.mem_cons_self) (i := 3) rfl
    have kf1 := @Hp.frozen _ _ _ hH7i ix _ _ List.mem_cons_self 1
    have kf2 := @Hp.frozen _ _ _ hH7i ix _ _ List.mem_cons_self 2
    have kf3 := @Hp.frozen _ _ _ hH7i ix _ _ List.mem_cons_self 3
    have H7 := Lib.hid hH7i
    have HR7 := Lib.hid hr7
    clear hH7 hH7i hr7
    go_wp2_with fail
    have H8 := Lib.hid (fun v => (H7.out.set 2 v).set 3 (.int .i64 (max X.tm t)))
    rcases lastOf X.marks with hM | ⟨m0, z, hM⟩
    · have hl0 : lm = 0 := by rw [← HLM.out, hM]; rfl
      have HE0 : Hid (((lm : Int) == 0) = true) := by show _ = _; rw [hl0]; rfl
      have HL0 := Lib.hid hl0
      clear hl0 k0 k1 k2 k3 kf1 kf2 kf3
      refine wp_region_hp (by kernel_rfl) (by decide) _ _ (H8.out _) (fun i _ v => match i with | 0 => v = .int .i64 lm | 1 => v = .bool true | 2 => v = .bool true | 3 => v = undef | 4 => v = undef | 5 => v = undef | 6 => v = undef | 7 => v = undef | 8 => v = undef | 9 => v = undef | 10 => v = undef | 11 => v = undef | 12 => v = undef | 13 => v = undef | 14 => v = undef | 15 => v = undef | 16 => v = undef | 17 => v = undef | 18 => v = undef | 19 => v = .bool true | _ => True) (by intro i P P' v _ h; exact h) ?_ ?_
      · intro i o ho u wq Pq hsq hHq hp K hK
        rcases i with _ | _ | _ | _ | _ | _ | _ | _ | _ | _ | _ | _ | _ | _ | _ | _ | _ | _ | _ | _ | i
        · cases ho
          simp only [frOf, Act.put, List.setIfInBounds_toArray, List.set_cons_zero, List.set_cons_succ, Nat.zero_add, Nat.reduceAdd] at hK ⊢
          go_simp
          exact hK _ wq Pq (Sub.refl _) hHq rfl
        · cases ho
          have h0 : u 0 = .int .i64 lm := hp ⟨0, .data⟩ (by simp) rfl
          simp only [frOf, Act.put, List.setIfInBounds_toArray, List.set_cons_zero, List.set_cons_succ, Nat.zero_add, Nat.reduceAdd] at hK ⊢
          simp only [h0] at hK ⊢
          go_simp
          exact hK _ wq Pq (Sub.refl _) hHq (by rw [HE0.out])
        · cases ho
          have h1 : u 1 = .bool true := hp ⟨1, .data⟩ (by simp) rfl
          simp only [frOf, Act.put, List.setIfInBounds_toArray, List.set_cons_zero, List.set_cons_succ, Nat.zero_add, Nat.reduceAdd] at hK ⊢
          simp only [h1] at hK ⊢
          go_simp
          exact hK _ wq Pq (Sub.refl _) hHq rfl
        · cases ho
          have h2 : u 2 = .bool true := hp ⟨2, .guard⟩ (by simp) rfl
          simp only [frOf, Act.put, List.setIfInBounds_toArray, List.set_cons_zero, List.set_cons_succ, Nat.zero_add, Nat.reduceAdd] at hK ⊢
          simp only [h2]
          first | exact trivial | (go_simp; done) | (rw [if_neg (by decide)]; trivial) | (rw [if_neg (Bool.not_eq_true _ ▸ (by kernel_rfl))]; trivial)
        · cases ho
          have h2 : u 2 = .bool true := hp ⟨2, .guard⟩ (by simp) rfl
          simp only [frOf, Act.put, List.setIfInBounds_toArray, List.set_cons_zero, List.set_cons_succ, Nat.zero_add, Nat.reduceAdd] at hK ⊢
          simp only [h2]
          first | exact trivial | (go_simp; done) | (rw [if_neg (by decide)]; trivial) | (rw [if_neg (Bool.not_eq_true _ ▸ (by kernel_rfl))]; trivial)
        · cases ho
          have h4 : u 4 = undef := hp ⟨4, .data⟩ (by simp) rfl
          have h2 : u 2 = .bool true := hp ⟨2, .guard⟩ (by simp) rfl
          simp only [frOf, Act.put, List.setIfInBounds_toArray, List.set_cons_zero, List.set_cons_succ, Nat.zero_add, Nat.reduceAdd] at hK ⊢
          simp only [h4, h2]
          first | exact trivial | (go_simp; done) | (rw [if_neg (by decide)]; trivial) | (rw [if_neg (Bool.not_eq_true _ ▸ (by kernel_rfl))]; trivial)
        · cases ho
          have h5 : u 5 = undef := hp ⟨5, .data⟩ (by simp) rfl
          have h2 : u 2 = .bool true := hp ⟨2, .guard⟩ (by simp) rfl
          simp only [frOf, Act.put, List.setIfInBounds_toArray, List.set_cons_zero, List.set_cons_succ, Nat.zero_add, Nat.reduceAdd] at hK ⊢
          simp only [h5, h2]
          first | exact trivial | (go_simp; done) | (rw [if_neg (by decide)]; trivial) | (rw [if_neg (Bool.not_eq_true _ ▸ (by kernel_rfl))]; trivial)
        · cases ho
          have h6 : u 6 = undef := hp ⟨6, .data⟩ (by simp) rfl
          have h2 : u 2 = .bool true := hp ⟨2, .guard⟩ (by simp) rfl
          simp only [frOf, Act.put, List.setIfInBounds_toArray, List.set_cons_zero, List.set_cons_succ, Nat.zero_add, Nat.reduceAdd] at hK ⊢
          simp only [h6, h2]
          first | exact trivial | (go_simp; done) | (rw [if_neg (by decide)]; trivial) | (rw [if_neg (Bool.not_eq_true _ ▸ (by kernel_rfl))]; trivial)
        · cases ho
          have h2 : u 2 = .bool true := hp ⟨2, .guard⟩ (by simp) rfl
          simp only [frOf, Act.put, List.setIfInBounds_toArray, List.set_cons_zero, List.set_cons_succ, Nat.zero_add, Nat.reduceAdd] at hK ⊢
          simp only [h2]
          first | exact trivial | (go_simp; done) | (rw [if_neg (by decide)]; trivial) | (rw [if_neg (Bool.not_eq_true _ ▸ (by kernel_rfl))]; trivial)
        · cases ho
          have h8 : u 8 = undef := hp ⟨8, .data⟩ (by simp) rfl
          have h2 : u 2 = .bool true := hp ⟨2, .guard⟩ (by simp) rfl
          simp only [frOf, Act.put, List.setIfInBounds_toArray, List.set_cons_zero, List.set_cons_succ, Nat.zero_add, Nat.reduceAdd] at hK ⊢
          simp only [h8, h2]
          first | exact trivial | (go_simp; done) | (rw [if_neg (by decide)]; trivial) | (rw [if_neg (Bool.not_eq_true _ ▸ (by kernel_rfl))]; trivial)
        · cases ho
          have h7 : u 7 = undef := hp ⟨7, .data⟩ (by simp) rfl
          have h9 : u 9 = undef := hp ⟨9, .data⟩ (by simp) rfl
          have h2 : u 2 = .bool true := hp ⟨2, .guard⟩ (by simp) rfl
          simp only [frOf, Act.put, List.setIfInBounds_toArray, List.set_cons_zero, List.set_cons_succ, Nat.zero_add, Nat.reduceAdd] at hK ⊢
          simp only [h7, h9, h2]
          first | exact trivial | (go_simp; done) | (rw [if_neg (by decide)]; trivial) | (rw [if_neg (Bool.not_eq_true _ ▸ (by kernel_rfl))]; trivial)
        · cases ho
          have h10 : u 10 = undef := hp ⟨10, .data⟩ (by simp) rfl
          have h2 : u 2 = .bool true := hp ⟨2, .guard⟩ (by simp) rfl
          simp only [frOf, Act.put, List.setIfInBounds_toArray, List.set_cons_zero, List.set_cons_succ, Nat.zero_add, Nat.reduceAdd] at hK ⊢
          simp only [h10, h2]
          first | exact trivial | (go_simp; done) | (rw [if_neg (by decide)]; trivial) | (rw [if_neg (Bool.not_eq_true _ ▸ (by kernel_rfl))]; trivial)
        · cases ho
          have h11 : u 11 = undef := hp ⟨11, .data⟩ (by simp) rfl
          have h2 : u 2 = .bool true := hp ⟨2, .guard⟩ (by simp) rfl
          simp only [frOf, Act.put, List.setIfInBounds_toArray, List.set_cons_zero, List.set_cons_succ, Nat.zero_add, Nat.reduceAdd] at hK ⊢
          simp only [h11, h2]
          first | exact trivial | (go_simp; done) | (rw [if_neg (by decide)]; trivial) | (rw [if_neg (Bool.not_eq_true _ ▸ (by kernel_rfl))]; trivial)
        · cases ho
          have h3 : u 3 = undef := hp ⟨3, .data⟩ (by simp) rfl
          have h12 : u 12 = undef := hp ⟨12, .data⟩ (by simp) rfl
          have h2 : u 2 = .bool true := hp ⟨2, .guard⟩ (by simp) rfl
          simp only [frOf, Act.put, List.setIfInBounds_toArray, List.set_cons_zero, List.set_cons_succ, Nat.zero_add, Nat.reduceAdd] at hK ⊢
          simp only [h3, h12, h2]
          first | exact trivial | (go_simp; done) | (rw [if_neg (by decide)]; trivial) | (rw [if_neg (Bool.not_eq_true _ ▸ (by kernel_rfl))]; trivial)
        · cases ho
          have h2 : u 2 = .bool true := hp ⟨2, .guard⟩ (by simp) rfl
          simp only [frOf, Act.put, List.setIfInBounds_toArray, List.set_cons_zero, List.set_cons_succ, Nat.zero_add, Nat.reduceAdd] at hK ⊢
          simp only [h2]
          first | exact trivial | (go_simp; done) | (rw [if_neg (by decide)]; trivial) | (rw [if_neg (Bool.not_eq_true _ ▸ (by kernel_rfl))]; trivial)
        · cases ho
          have h14 : u 14 = undef := hp ⟨14, .data⟩ (by simp) rfl
          have h2 : u 2 = .bool true := hp ⟨2, .guard⟩ (by simp) rfl
          simp only [frOf, Act.put, List.setIfInBounds_toArray, List.set_cons_zero, List.set_cons_succ, Nat.zero_add, Nat.reduceAdd] at hK ⊢
          simp only [h14, h2]
          first | exact trivial | (go_simp; done) | (rw [if_neg (by decide)]; trivial) | (rw [if_neg (Bool.not_eq_true _ ▸ (by kernel_rfl))]; trivial)
        · cases ho
          have h15 : u 15 = undef := hp ⟨15, .data⟩ (by simp) rfl
          have h2 : u 2 = .bool true := hp ⟨2, .guard⟩ (by simp) rfl
          simp only [frOf, Act.put, List.setIfInBounds_toArray, List.set_cons_zero, List.set_cons_succ, Nat.zero_add, Nat.reduceAdd] at hK ⊢
          simp only [h15, h2]
          first | exact trivial | (go_simp; done) | (rw [if_neg (by decide)]; trivial) | (rw [if_neg (Bool.not_eq_true _ ▸ (by kernel_rfl))]; trivial)
        · cases ho
          have h16 : u 16 = undef := hp ⟨16, .data⟩ (by simp) rfl
          have h2 : u 2 = .bool true := hp ⟨2, .guard⟩ (by simp) rfl
          simp only [frOf, Act.put, List.setIfInBounds_toArray, List.set_cons_zero, List.set_cons_succ, Nat.zero_add, Nat.reduceAdd] at hK ⊢
          simp only [h16, h2]
          first | exact trivial | (go_simp; done) | (rw [if_neg (by decide)]; trivial) | (rw [if_neg (Bool.not_eq_true _ ▸ (by kernel_rfl))]; trivial)
        · cases ho
          have h13 : u 13 = undef := hp ⟨13, .data⟩ (by simp) rfl
          have h17 : u 17 = undef := hp ⟨17, .data⟩ (by simp) rfl
          have h2 : u 2 = .bool true := hp ⟨2, .guard⟩ (by simp) rfl
          simp only [frOf, Act.put, List.setIfInBounds_toArray, List.set_cons_zero, List.set_cons_succ, Nat.zero_add, Nat.reduceAdd] at hK ⊢
          simp only [h13, h17, h2]
          first | exact trivial | (go_simp; done) | (rw [if_neg (by decide)]; trivial) | (rw [if_neg (Bool.not_eq_true _ ▸ (by kernel_rfl))]; trivial)
        · cases ho
          have h2 : u 2 = .bool true := hp ⟨2, .data⟩ (by simp) rfl
          have h18 : u 18 = undef := hp ⟨18, .data⟩ (by simp) rfl
          simp only [frOf, Act.put, List.setIfInBounds_toArray, List.set_cons_zero, List.set_cons_succ, Nat.zero_add, Nat.reduceAdd] at hK ⊢
          simp only [h2, h18] at hK ⊢
          go_simp
          exact hK _ wq Pq (Sub.refl _) hHq rfl
        · exact absurd ho (by simp)
      · intro u wq Pq hsq hHq hR
        have h19 : u 19 = .bool true := hR 19 (by decide)
        simp only [frOf, List.setIfInBounds_toArray, List.set_cons_zero, List.set_cons_succ, Nat.zero_add, Nat.reduceAdd]
        simp only [h19]
        have H9 := Lib.hid (hHq.weaken hsq)
        have k1 : wq.cell? ⟨ix, 1, none⟩ = some (.slice ma lm mc) := (@Hp.cell _ _ _ H9.out ix _ _ (0, 0) List.mem_cons_self) (i := 1) rfl
        have k3 : wq.cell? ⟨ix, 3, none⟩ = some (.int .i64 (max X.tm t)) := (@Hp.cell _ _ _ H9.out ix _ _ (0, 0) List.mem_cons_self) (i := 3) rfl
        have kf1 : wq.frozen? ⟨ix, 1, none⟩ = false := @Hp.frozen _ _ _ H9.out ix _ _ List.mem_cons_self 1
        have hbm : (bx, Obj.cells #[.int .i64 o, .int .i64 t, .int .i64 p] 206 (0, 0)) ∈ (A7 ++ ((bx, Obj.cells #[.int .i64 o, .int .i64 t, .int .i64 p] 206 (0, 0)) :: (Am ++ F))) := by simp
        have b0 : wq.cell? ⟨bx, 0, none⟩ = some (.int .i64 o) := H9.out.cell (List.mem_cons_of_mem _ hbm) rfl
        have b1 : wq.cell? ⟨bx, 1, none⟩ = some (.int .i64 t) := H9.out.cell (List.mem_cons_of_mem _ hbm) rfl
        have b2 : wq.cell? ⟨bx, 2, none⟩ = some (.int .i64 p) := H9.out.cell (List.mem_cons_of_mem _ hbm) rfl
        have bf1 : wq.frozen? ⟨bx, 1, none⟩ = false := H9.out.frozen (List.mem_cons_of_mem _ hbm) 1
        clear hR hHq hsq hbm
        go_wp2_with fail
        obtain ⟨av, HRA, H10⟩ : ∃ av, Hid (RowM 206 3 av (X.adds.length + 1) (adsV X.adds ++ [.int .i64 o, .int .i64 0, .int .i64 p]) A7) ∧ Hid (Hp (wq.setCell ⟨bx, 1, none⟩ (.int .i64 (max X.tm t))) P (Am ++ ((bx, Obj.cells #[.int .i64 o, .int .i64 (max X.tm t), .int .i64 p] 206 (0, 0)) :: ((ix, Obj.cells #[.int .i64 X.every, .slice ma lm mc, av, .int .i64 (max X.tm t)] 192 (0, 0)) :: (A7 ++ F))))) := by
          refine ⟨_, by rw [HLA.out]; exact HR7.out, ?_⟩
          have h1 := Hp.mid (A := (ix, _) :: A7) (B := [(bx, Obj.cells #[.int .i64 o, .int .i64 t, .int .i64 p] 206 (0, 0))]) (C := Am ++ F) H9.out
          have h2 := Hp.set (M := (ix, _) :: A7 ++ (Am ++ F)) h1 1 (.int .i64 (max X.tm t))
          have h3 := Hp.mid (A := (bx, _) :: (ix, _) :: A7) (B := Am) (C := F) (by simpa [ixC] using h2)
          show Hp _ P _
          simpa [ixC] using h3
        clear k1 k3 kf1 b0 b1 b2 bf1
        refine wp_region_ph (by kernel_rfl) (by decide) 7 10 (by kernel_rfl) ⟨by decide, by decide⟩ (by decide) _ (fun b P w2 v => match b with | 0 => Hp w2 P (Am ++ ((bx, Obj.cells #[.int .i64 o, .int .i64 (max X.tm t), .int .i64 p] 206 (0, 0)) :: ((ix, Obj.cells #[.int .i64 X.every, .slice ma lm mc, av, .int .i64 (max X.tm t)] 192 (0, 0)) :: (A7 ++ F)))) | 1 => ∃ g cap Al, v = .slice (some ⟨g, 0, none⟩) (lm + 1) cap ∧ RowM 206 3 v (lm + 1) (mksV X.marks ++ (#[.int .i64 o, .int .i64 (max X.tm t), .int .i64 p] : Array Value).toList) Al ∧ Hp w2 P (Al ++ ((bx, Obj.cells #[.int .i64 o, .int .i64 (max X.tm t), .int .i64 p] 206 (0, 0)) :: ((ix, Obj.cells #[.int .i64 X.every, .slice ma lm mc, av, .int .i64 (max X.tm t)] 192 (0, 0)) :: (A7 ++ F)))) | _ => ∃ Al, RowM 206 3 v (lm + 1) (mksV X.marks ++ (#[.int .i64 o, .int .i64 (max X.tm t), .int .i64 p] : Array Value).toList) Al ∧ Hp w2 P (Al ++ ((bx, Obj.cells #[.int .i64 o, .int .i64 (max X.tm t), .int .i64 p] 206 (0, 0)) :: ((ix, Obj.cells #[.int .i64 X.every, v, av, .int .i64 (max X.tm t)] 192 (0, 0)) :: (A7 ++ F))))) (fun v => H10.out.drew) (fun i P v => match i with | 0 => v = ptr ix | 1 => v = ptr ix | 2 => v = ptr ix | 3 => v = .pointer (some ⟨ix, 1, none⟩) | 4 => v = .slice ma lm mc | 5 => v = .agg #[.int .i64 o, .int .i64 (max X.tm t), .int .i64 p] | 6 => ∃ b, v = .slice (some ⟨b, 0, none⟩) 1 1 ∧ P.m b = some (Obj.cells #[.int .i64 o, .int .i64 (max X.tm t), .int .i64 p] 206 (0, 0)) | 7 => True | 8 => v = ptr ix | 9 => v = .pointer (some ⟨ix, 1, none⟩) | 10 => True | _ => True) (by intro i P P' v hs h; rcases i with _ | _ | _ | _ | _ | _ | _ | _ | _ | _ | _ | i <;> first | exact h | (obtain ⟨b, h1, h2⟩ := h; exact ⟨b, h1, hs.m _ _ h2⟩)) ?_ ?_
        · intro i o ho b u w2 P2 hsq hJ hp q1 q2 q3 q4 K hK
          rcases i with _ | _ | _ | _ | _ | _ | _ | _ | _ | _ | _ | i
          · cases ho
            simp only [frOf, Act.put, List.setIfInBounds_toArray, List.set_cons_zero, List.set_cons_succ, Nat.zero_add, Nat.reduceAdd] at hK ⊢
            go_simp
            exact hK _ w2 P2 (Sub.refl _) hJ rfl
          · cases ho
            simp only [frOf, Act.put, List.setIfInBounds_toArray, List.set_cons_zero, List.set_cons_succ, Nat.zero_add, Nat.reduceAdd] at hK ⊢
            go_simp
            exact hK _ w2 P2 (Sub.refl _) hJ rfl
          · cases ho
            have h1 : u 1 = ptr ix := hp ⟨1, .data⟩ (by simp) rfl
            simp only [frOf, Act.put, List.setIfInBounds_toArray, List.set_cons_zero, List.set_cons_succ, Nat.zero_add, Nat.reduceAdd] at hK ⊢
            simp only [h1] at hK ⊢
            go_simp
            exact hK _ w2 P2 (Sub.refl _) hJ rfl
          · cases ho
            have h2 : u 2 = ptr ix := hp ⟨2, .data⟩ (by simp) rfl
            simp only [frOf, Act.put, List.setIfInBounds_toArray, List.set_cons_zero, List.set_cons_succ, Nat.zero_add, Nat.reduceAdd] at hK ⊢
            simp only [h2] at hK ⊢
            go_simp
            exact hK _ w2 P2 (Sub.refl _) hJ rfl
          · cases ho
            have h3 : u 3 = .pointer (some ⟨ix, 1, none⟩) := hp ⟨3, .data⟩ (by simp) rfl
            simp only [frOf, Act.put, List.setIfInBounds_toArray, List.set_cons_zero, List.set_cons_succ, Nat.zero_add, Nat.reduceAdd] at hK ⊢
            simp only [h3] at hK ⊢
            obtain rfl : b = 0 := ph0 (fun h => nomatch ((q1 h).1.symm.trans (by kernel_rfl : _ = true)))
            have hH2 : Hp w2 P2 (Am ++ ((bx, Obj.cells #[.int .i64 o, .int .i64 (max X.tm t), .int .i64 p] 206 (0, 0)) :: ((ix, Obj.cells #[.int .i64 X.every, .slice ma lm mc, av, .int .i64 (max X.tm t)] 192 (0, 0)) :: (A7 ++ F)))) := hJ
            have kc : w2.cell? ⟨ix, 1, none⟩ = some (.slice ma lm mc) := (@Hp.cell _ _ _ hH2 ix #[.int .i64 X.every, .slice ma lm mc, av, .int .i64 (max X.tm t)] 192 (0, 0) (by simp)) rfl
            go_simp
            exact hK _ w2 P2 (Sub.refl _) hH2 rfl
          · cases ho
            simp only [frOf, Act.put, List.setIfInBounds_toArray, List.set_cons_zero, List.set_cons_succ, Nat.zero_add, Nat.reduceAdd] at hK ⊢
            obtain rfl : b = 0 := ph0 (fun h => nomatch ((q1 h).1.symm.trans (by kernel_rfl : _ = true)))
            have hH2 : Hp w2 P2 (Am ++ ((bx, Obj.cells #[.int .i64 o, .int .i64 (max X.tm t), .int .i64 p] 206 (0, 0)) :: ((ix, Obj.cells #[.int .i64 X.every, .slice ma lm mc, av, .int .i64 (max X.tm t)] 192 (0, 0)) :: (A7 ++ F)))) := hJ
            have kb0 := (@Hp.cell _ _ _ hH2 bx #[.int .i64 o, .int .i64 (max X.tm t), .int .i64 p] 206 (0, 0) (by simp)) (i := 0) rfl
            have kb1 := (@Hp.cell _ _ _ hH2 bx #[.int .i64 o, .int .i64 (max X.tm t), .int .i64 p] 206 (0, 0) (by simp)) (i := 1) rfl
            have kb2 := (@Hp.cell _ _ _ hH2 bx #[.int .i64 o, .int .i64 (max X.tm t), .int .i64 p] 206 (0, 0) (by simp)) (i := 2) rfl
            go_simp
            exact hK _ w2 P2 (Sub.refl _) hH2 rfl
          · cases ho
            have h5 : u 5 = .agg #[.int .i64 o, .int .i64 (max X.tm t), .int .i64 p] := hp ⟨5, .data⟩ (by simp) rfl
            simp only [frOf, Act.put, List.setIfInBounds_toArray, List.set_cons_zero, List.set_cons_succ, Nat.zero_add, Nat.reduceAdd] at hK ⊢
            simp only [h5] at hK ⊢
            obtain rfl : b = 0 := ph0 (fun h => nomatch ((q1 h).1.symm.trans (by kernel_rfl : _ = true)))
            have hH2 : Hp w2 P2 (Am ++ ((bx, Obj.cells #[.int .i64 o, .int .i64 (max X.tm t), .int .i64 p] 206 (0, 0)) :: ((ix, Obj.cells #[.int .i64 X.every, .slice ma lm mc, av, .int .i64 (max X.tm t)] 192 (0, 0)) :: (A7 ++ F)))) := hJ
            go_simp
            obtain ⟨P3, z1, z2, z3⟩ := hH2.lay (Obj.cells #[.int .i64 o, .int .i64 (max X.tm t), .int .i64 p] 206 (0, 0))
            exact hK _ _ P3 z1 z2 ⟨_, rfl, z3⟩
          · cases ho
            have h4 : u 4 = .slice ma lm mc := hp ⟨4, .data⟩ (by simp) rfl
            have hr6 : ∃ b, u 6 = .slice (some ⟨b, 0, none⟩) 1 1 ∧ P2.m b = some (Obj.cells #[.int .i64 o, .int .i64 (max X.tm t), .int .i64 p] 206 (0, 0)) := hp ⟨6, .data⟩ (by simp) rfl
            obtain rfl : b = 0 := ph0 (fun h => (q1 h).2 rfl)
            have hH2 : Hp w2 P2 (Am ++ ((bx, Obj.cells #[.int .i64 o, .int .i64 (max X.tm t), .int .i64 p] 206 (0, 0)) :: ((ix, Obj.cells #[.int .i64 X.every, .slice ma lm mc, av, .int .i64 (max X.tm t)] 192 (0, 0)) :: (A7 ++ F)))) := hJ
            simp only [frOf, Act.put, List.setIfInBounds_toArray, List.set_cons_zero, List.set_cons_succ, Nat.zero_add, Nat.reduceAdd] at hK ⊢
            obtain ⟨bb, h6, hbb⟩ := hr6
            simp only [h4, h6] at hK ⊢
            refine step_push2 (a := ⟨_, []⟩) (by rfl) _ _ _ (by rfl) 206 _ 3 24 Tryz.underlying190 infoMk (by rfl) (by omega) (.slice ma lm mc) lm (mksV X.marks) (by rfl) hH2 HM.out bb #[.int .i64 o, .int .i64 (max X.tm t), .int .i64 p] (by rfl) hbb (by rfl) (by intro u hu; simp at hu; rcases hu with rfl | rfl | rfl <;> rfl) (by omega) (by omega) ?_
            intro g cap w3 Al hr3 hH3
            simp only [Act.put, List.setIfInBounds_toArray, List.set_cons_zero, List.set_cons_succ]
            exact hK _ w3 P2 (Sub.refl _) ⟨g, cap, Al, rfl, hr3, hH3⟩ trivial
          · cases ho
            have h0 : u 0 = ptr ix := hp ⟨0, .data⟩ (by simp) rfl
            simp only [frOf, Act.put, List.setIfInBounds_toArray, List.set_cons_zero, List.set_cons_succ, Nat.zero_add, Nat.reduceAdd] at hK ⊢
            simp only [h0] at hK ⊢
            go_simp
            exact hK _ w2 P2 (Sub.refl _) hJ rfl
          · cases ho
            have h8 : u 8 = ptr ix := hp ⟨8, .data⟩ (by simp) rfl
            simp only [frOf, Act.put, List.setIfInBounds_toArray, List.set_cons_zero, List.set_cons_succ, Nat.zero_add, Nat.reduceAdd] at hK ⊢
            simp only [h8] at hK ⊢
            go_simp
            exact hK _ w2 P2 (Sub.refl _) hJ rfl
          · cases ho
            simp only [frOf, Act.put, List.setIfInBounds_toArray, List.set_cons_zero, List.set_cons_succ, Nat.zero_add, Nat.reduceAdd] at hK ⊢
            have h9 : u 9 = .pointer (some ⟨ix, 1, none⟩) := hp ⟨9, .data⟩ (by simp) rfl
            obtain rfl : b = 1 := ph1 (q3 (by kernel_rfl)) (fun e => (q2 e).2 rfl) q4
            have hJ' : ∃ g cap Al, u 7 = .slice (some ⟨g, 0, none⟩) (lm + 1) cap ∧ RowM 206 3 (u 7) (lm + 1) (mksV X.marks ++ (#[.int .i64 o, .int .i64 (max X.tm t), .int .i64 p] : Array Value).toList) Al ∧ Hp w2 P2 (Al ++ ((bx, Obj.cells #[.int .i64 o, .int .i64 (max X.tm t), .int .i64 p] 206 (0, 0)) :: ((ix, Obj.cells #[.int .i64 X.every, .slice ma lm mc, av, .int .i64 (max X.tm t)] 192 (0, 0)) :: (A7 ++ F)))) := hJ
            obtain ⟨g, cap, Al, h7, hr3, hH3⟩ := hJ'
            simp only [Nat.reduceEqDiff, if_true, if_false] at hK
            simp only [h9, h7] at hK hr3 ⊢
            have f1 := @Hp.frozen _ _ _ hH3 ix #[.int .i64 X.every, .slice ma lm mc, av, .int .i64 (max X.tm t)] 192 (by simp) 1
            have kc : w2.cell? ⟨ix, 1, none⟩ = some (.slice ma lm mc) := (@Hp.cell _ _ _ hH3 ix #[.int .i64 X.every, .slice ma lm mc, av, .int .i64 (max X.tm t)] 192 (0, 0) (by simp)) rfl
            go_simp
            refine hK undef _ P2 (Sub.refl _) ⟨Al, hr3, ?_⟩ trivial
            have hz := (Hp.mid (A := Al ++ [(bx, Obj.cells #[.int .i64 o, .int .i64 (max X.tm t), .int .i64 p] 206 (0, 0))]) (B := [(ix, Obj.cells #[.int .i64 X.every, .slice ma lm mc, av, .int .i64 (max X.tm t)] 192 (0, 0))]) (C := A7 ++ F) (by simpa [List.append_assoc] using hH3)).set 1 (.slice (some ⟨g, 0, none⟩) (lm + 1) cap)
            have hy := Hp.mid (A := [_]) (B := Al ++ [(bx, Obj.cells #[.int .i64 o, .int .i64 (max X.tm t), .int .i64 p] 206 (0, 0))]) (C := A7 ++ F) hz
            simpa [List.append_assoc] using hy
          · exact absurd ho (by simp)
        · intro u w2 P2 hsq hJ hR
          obtain ⟨Al, hr3, hH3⟩ := hJ
          simp only [frOf, List.setIfInBounds_toArray, List.set_cons_zero, List.set_cons_succ, Nat.zero_add, Nat.reduceAdd]
          go_wp2_with fail
          have hmore : X.more p = true := by unfold Ix.more; rw [hM]; rfl
          have e1 : (X.add o t p).marks = X.marks ++ [(o, max X.tm t, p)] := by unfold Ix.add; simp [hmore]
          have h4 := (Hp.mid (A := Al) (B := [(bx, _)]) (hH3.weaken hsq)).tail
          have h5 := Hp.mid (A := Al) (B := [(ix, _)]) h4
          go_ret
          refine ⟨rfl, (ix, Obj.cells (ixC (X.add o t p) (u 7) av) 192 (0, 0)) :: (Al ++ A7), ⟨u 7, av, Al, A7, rfl, ?_, ?_⟩, ?_⟩
          · rw [e1, List.length_append, HLM.out, mksV_app]; exact hr3
          · show RowM _ 3 av (X.adds ++ [(o, p)]).length (adsV (X.adds ++ [(o, p)])) A7
            rw [List.length_append, adsV_app]; exact HRA.out
          · simpa [ixC, Ix.add] using h5
    · have hl1 : lm = m0.length + 1 := by rw [← HLM.out, hM]; simp
      obtain ⟨jm, hjm⟩ : ∃ jm, m0.length = jm := ⟨_, rfl⟩
      rw [hjm] at hl1
      have hzm : (mksV X.marks)[jm * 3 + 2]? = some (.int .i64 z.2.2) := by
        have hl : (mksV m0).length = jm * 3 := by rw [← hjm]; clear hM hjm hl1; induction m0 with
          | nil => rfl
          | cons x l ih => simp only [mksV, List.flatMap_cons, List.length_append, List.length_cons] at ih ⊢; rw [ih]; simp [mkV]; omega
        rw [hM, mksV_app, List.getElem?_append_right (by omega), hl]; simp [mksV, mkV]
      have hfm := HOK.out.fm m0 z hM
      have hlp : X.lastP = z.2.2 := by unfold Ix.lastP; rw [hM]; simp
      obtain ⟨y, hy⟩ : ∃ y, z.2.2 = y := ⟨_, rfl⟩
      rw [hy] at hzm hfm hlp
      obtain ⟨gm, cm, hsm, hcm, -⟩ := HM.out.cell (Hp.mid (A := (ix, _) :: (A7 ++ [(bx, _)])) (B := Am) (C := F) (by simpa [List.append_assoc] using (H8.out (.slice none 0 0)))) hzm
      cases hsm
      obtain ⟨ev, hev⟩ : ∃ ev, X.every = ev := ⟨_, rfl⟩
      have hev1 := HOK.out.ev
      rw [hev] at hev1
      have hp1 := HOK.out.p1
      have HEV := Lib.hid hev
      have HE1 : Hid (((lm : Int) == 0) = false) := beq_eq_false_iff_ne.2 (by omega)
      have HL1 := Lib.hid hl1
      have HZM := Lib.hid hzm
      have HLP := Lib.hid hlp
      have HNE : Hid (X.marks.isEmpty = false) := by show _ = _; rw [hM]; simp
      have l1 : 1 ≤ lm := by omega
      have l2 : (jm : Int) < (lm : Int) := by omega
      have l3 : (0 : Int) ≤ (jm : Int) := by omega
      have w9 : IntKind.i64.wrap ((lm : Int) - 1) = (jm : Int) := by rw [show (lm : Int) - 1 = (jm : Int) from by omega]; exact IntWalk.i64_in _ (by omega)
      have w13 : IntKind.i64.wrap ((p : Int) - (y : Int)) = (p : Int) - (y : Int) := IntWalk.i64_in _ (by omega)
      clear hM hjm hev hzm hlp hl1 k0 k1 k2 k3 kf1 kf2 kf3
      refine wp_region_hp (by kernel_rfl) (by decide) _ _ (H8.out _) (fun i _ v => match i with | 0 => v = .int .i64 lm | 1 => v = .bool false | 2 => v = .bool false | 3 => v = .int .i64 p | 4 => v = ptr ix | 5 => v = ptr ix | 6 => v = .pointer (some ⟨ix, 1, none⟩) | 7 => v = .slice (some ⟨gm, 0, none⟩) lm mc | 8 => v = .int .i64 lm | 9 => v = .int .i64 jm | 10 => v = .pointer (some ⟨gm, jm * 3, none⟩) | 11 => v = .pointer (some ⟨gm, jm * 3 + 2, none⟩) | 12 => v = .int .i64 y | 13 => v = .int .i64 ((p : Int) - (y : Int)) | 14 => v = ptr ix | 15 => v = ptr ix | 16 => v = .pointer (some ⟨ix, 0, none⟩) | 17 => v = .int .i64 ev | 18 => v = .bool (decide ((ev : Int) ≤ (p : Int) - (y : Int))) | 19 => v = .bool (decide ((ev : Int) ≤ (p : Int) - (y : Int))) | _ => True) (by intro i P P' v _ h; exact h) ?_ ?_
      · intro i o ho u wq Pq hsq hHq hp K hK
        rcases i with _ | _ | _ | _ | _ | _ | _ | _ | _ | _ | _ | _ | _ | _ | _ | _ | _ | _ | _ | _ | i
        · cases ho
          simp only [frOf, Act.put, List.setIfInBounds_toArray, List.set_cons_zero, List.set_cons_succ, Nat.zero_add, Nat.reduceAdd] at hK ⊢
          go_simp
          exact hK _ wq Pq (Sub.refl _) hHq rfl
        · cases ho
          have h0 : u 0 = .int .i64 lm := hp ⟨0, .data⟩ (by simp) rfl
          simp only [frOf, Act.put, List.setIfInBounds_toArray, List.set_cons_zero, List.set_cons_succ, Nat.zero_add, Nat.reduceAdd] at hK ⊢
          simp only [h0] at hK ⊢
          go_simp
          exact hK _ wq Pq (Sub.refl _) hHq (by rw [HE1.out])
        · cases ho
          have h1 : u 1 = .bool false := hp ⟨1, .data⟩ (by simp) rfl
          simp only [frOf, Act.put, List.setIfInBounds_toArray, List.set_cons_zero, List.set_cons_succ, Nat.zero_add, Nat.reduceAdd] at hK ⊢
          simp only [h1] at hK ⊢
          go_simp
          exact hK _ wq Pq (Sub.refl _) hHq rfl
        · cases ho
          have h2 : u 2 = .bool false := hp ⟨2, .guard⟩ (by simp) rfl
          simp only [frOf, Act.put, List.setIfInBounds_toArray, List.set_cons_zero, List.set_cons_succ, Nat.zero_add, Nat.reduceAdd] at hK ⊢
          simp only [h2] at hK ⊢
          go_simp
          exact hK _ wq Pq (Sub.refl _) hHq rfl
        · cases ho
          have h2 : u 2 = .bool false := hp ⟨2, .guard⟩ (by simp) rfl
          simp only [frOf, Act.put, List.setIfInBounds_toArray, List.set_cons_zero, List.set_cons_succ, Nat.zero_add, Nat.reduceAdd] at hK ⊢
          simp only [h2] at hK ⊢
          go_simp
          exact hK _ wq Pq (Sub.refl _) hHq rfl
        · cases ho
          have h4 : u 4 = ptr ix := hp ⟨4, .data⟩ (by simp) rfl
          have h2 : u 2 = .bool false := hp ⟨2, .guard⟩ (by simp) rfl
          simp only [frOf, Act.put, List.setIfInBounds_toArray, List.set_cons_zero, List.set_cons_succ, Nat.zero_add, Nat.reduceAdd] at hK ⊢
          simp only [h4, h2] at hK ⊢
          go_simp
          exact hK _ wq Pq (Sub.refl _) hHq rfl
        · cases ho
          have h5 : u 5 = ptr ix := hp ⟨5, .data⟩ (by simp) rfl
          have h2 : u 2 = .bool false := hp ⟨2, .guard⟩ (by simp) rfl
          simp only [frOf, Act.put, List.setIfInBounds_toArray, List.set_cons_zero, List.set_cons_succ, Nat.zero_add, Nat.reduceAdd] at hK ⊢
          simp only [h5, h2] at hK ⊢
          go_simp
          exact hK _ wq Pq (Sub.refl _) hHq rfl
        · cases ho
          have h6 : u 6 = .pointer (some ⟨ix, 1, none⟩) := hp ⟨6, .data⟩ (by simp) rfl
          have h2 : u 2 = .bool false := hp ⟨2, .guard⟩ (by simp) rfl
          simp only [frOf, Act.put, List.setIfInBounds_toArray, List.set_cons_zero, List.set_cons_succ, Nat.zero_add, Nat.reduceAdd] at hK ⊢
          simp only [h6, h2] at hK ⊢
          have kc : wq.cell? ⟨ix, 1, none⟩ = some (.slice (some ⟨gm, 0, none⟩) lm mc) := (@Hp.cell _ _ _ hHq ix _ _ (0, 0) List.mem_cons_self) (i := 1) rfl
          go_simp
          exact hK _ wq Pq (Sub.refl _) hHq rfl
        · cases ho
          have h2 : u 2 = .bool false := hp ⟨2, .guard⟩ (by simp) rfl
          simp only [frOf, Act.put, List.setIfInBounds_toArray, List.set_cons_zero, List.set_cons_succ, Nat.zero_add, Nat.reduceAdd] at hK ⊢
          simp only [h2] at hK ⊢
          go_simp
          exact hK _ wq Pq (Sub.refl _) hHq rfl
        · cases ho
          have h8 : u 8 = .int .i64 lm := hp ⟨8, .data⟩ (by simp) rfl
          have h2 : u 2 = .bool false := hp ⟨2, .guard⟩ (by simp) rfl
          simp only [frOf, Act.put, List.setIfInBounds_toArray, List.set_cons_zero, List.set_cons_succ, Nat.zero_add, Nat.reduceAdd] at hK ⊢
          simp only [h8, h2] at hK ⊢
          go_simp
          exact hK _ wq Pq (Sub.refl _) hHq (by first | rfl | rw [w9])
        · cases ho
          have h7 : u 7 = .slice (some ⟨gm, 0, none⟩) lm mc := hp ⟨7, .data⟩ (by simp) rfl
          have h9 : u 9 = .int .i64 jm := hp ⟨9, .data⟩ (by simp) rfl
          have h2 : u 2 = .bool false := hp ⟨2, .guard⟩ (by simp) rfl
          simp only [frOf, Act.put, List.setIfInBounds_toArray, List.set_cons_zero, List.set_cons_succ, Nat.zero_add, Nat.reduceAdd] at hK ⊢
          simp only [h7, h9, h2] at hK ⊢
          go_simp
          exact hK _ wq Pq (Sub.refl _) hHq rfl
        · cases ho
          have h10 : u 10 = .pointer (some ⟨gm, jm * 3, none⟩) := hp ⟨10, .data⟩ (by simp) rfl
          have h2 : u 2 = .bool false := hp ⟨2, .guard⟩ (by simp) rfl
          simp only [frOf, Act.put, List.setIfInBounds_toArray, List.set_cons_zero, List.set_cons_succ, Nat.zero_add, Nat.reduceAdd] at hK ⊢
          simp only [h10, h2] at hK ⊢
          go_simp
          exact hK _ wq Pq (Sub.refl _) hHq rfl
        · cases ho
          have h11 : u 11 = .pointer (some ⟨gm, jm * 3 + 2, none⟩) := hp ⟨11, .data⟩ (by simp) rfl
          have h2 : u 2 = .bool false := hp ⟨2, .guard⟩ (by simp) rfl
          simp only [frOf, Act.put, List.setIfInBounds_toArray, List.set_cons_zero, List.set_cons_succ, Nat.zero_add, Nat.reduceAdd] at hK ⊢
          simp only [h11, h2] at hK ⊢
          have kz : wq.cell? ⟨gm, jm * 3 + 2, none⟩ = some (.int .i64 y) := by
            obtain ⟨_, _, e, _, yy⟩ := HM.out.cell (Hp.mid (A := (ix, _) :: (A7 ++ [(bx, _)])) (B := Am) (C := F) (by simpa [List.append_assoc] using hHq)) HZM.out
            cases e; exact yy
          go_simp
          exact hK _ wq Pq (Sub.refl _) hHq rfl
        · cases ho
          have h3 : u 3 = .int .i64 p := hp ⟨3, .data⟩ (by simp) rfl
          have h12 : u 12 = .int .i64 y := hp ⟨12, .data⟩ (by simp) rfl
          have h2 : u 2 = .bool false := hp ⟨2, .guard⟩ (by simp) rfl
          simp only [frOf, Act.put, List.setIfInBounds_toArray, List.set_cons_zero, List.set_cons_succ, Nat.zero_add, Nat.reduceAdd] at hK ⊢
          simp only [h3, h12, h2] at hK ⊢
          go_simp
          exact hK _ wq Pq (Sub.refl _) hHq (by first | rfl | rw [w13])
        · cases ho
          have h2 : u 2 = .bool false := hp ⟨2, .guard⟩ (by simp) rfl
          simp only [frOf, Act.put, List.setIfInBounds_toArray, List.set_cons_zero, List.set_cons_succ, Nat.zero_add, Nat.reduceAdd] at hK ⊢
          simp only [h2] at hK ⊢
          go_simp
          exact hK _ wq Pq (Sub.refl _) hHq rfl
        · cases ho
          have h14 : u 14 = ptr ix := hp ⟨14, .data⟩ (by simp) rfl
          have h2 : u 2 = .bool false := hp ⟨2, .guard⟩ (by simp) rfl
          simp only [frOf, Act.put, List.setIfInBounds_toArray, List.set_cons_zero, List.set_cons_succ, Nat.zero_add, Nat.reduceAdd] at hK ⊢
          simp only [h14, h2] at hK ⊢
          go_simp
          exact hK _ wq Pq (Sub.refl _) hHq rfl
        · cases ho
          have h15 : u 15 = ptr ix := hp ⟨15, .data⟩ (by simp) rfl
          have h2 : u 2 = .bool false := hp ⟨2, .guard⟩ (by simp) rfl
          simp only [frOf, Act.put, List.setIfInBounds_toArray, List.set_cons_zero, List.set_cons_succ, Nat.zero_add, Nat.reduceAdd] at hK ⊢
          simp only [h15, h2] at hK ⊢
          go_simp
          exact hK _ wq Pq (Sub.refl _) hHq rfl
        · cases ho
          have h16 : u 16 = .pointer (some ⟨ix, 0, none⟩) := hp ⟨16, .data⟩ (by simp) rfl
          have h2 : u 2 = .bool false := hp ⟨2, .guard⟩ (by simp) rfl
          simp only [frOf, Act.put, List.setIfInBounds_toArray, List.set_cons_zero, List.set_cons_succ, Nat.zero_add, Nat.reduceAdd] at hK ⊢
          simp only [h16, h2] at hK ⊢
          have kc : wq.cell? ⟨ix, 0, none⟩ = some (.int .i64 ev) := by rw [← HEV.out]; exact (@Hp.cell _ _ _ hHq ix _ _ (0, 0) List.mem_cons_self) (i := 0) rfl
          go_simp
          exact hK _ wq Pq (Sub.refl _) hHq rfl
        · cases ho
          have h13 : u 13 = .int .i64 ((p : Int) - (y : Int)) := hp ⟨13, .data⟩ (by simp) rfl
          have h17 : u 17 = .int .i64 ev := hp ⟨17, .data⟩ (by simp) rfl
          have h2 : u 2 = .bool false := hp ⟨2, .guard⟩ (by simp) rfl
          simp only [frOf, Act.put, List.setIfInBounds_toArray, List.set_cons_zero, List.set_cons_succ, Nat.zero_add, Nat.reduceAdd] at hK ⊢
          simp only [h13, h17, h2] at hK ⊢
          go_simp
          exact hK _ wq Pq (Sub.refl _) hHq rfl
        · cases ho
          have h2 : u 2 = .bool false := hp ⟨2, .data⟩ (by simp) rfl
          have h18 : u 18 = .bool (decide ((ev : Int) ≤ (p : Int) - (y : Int))) := hp ⟨18, .data⟩ (by simp) rfl
          simp only [frOf, Act.put, List.setIfInBounds_toArray, List.set_cons_zero, List.set_cons_succ, Nat.zero_add, Nat.reduceAdd] at hK ⊢
          simp only [h2, h18] at hK ⊢
          go_simp
          exact hK _ wq Pq (Sub.refl _) hHq rfl
        · exact absurd ho (by simp)
      · intro u wq Pq hsq hHq hR
        have h19 : u 19 = .bool (decide ((ev : Int) ≤ (p : Int) - (y : Int))) := hR 19 (by decide)
        simp only [frOf, List.setIfInBounds_toArray, List.set_cons_zero, List.set_cons_succ, Nat.zero_add, Nat.reduceAdd]
        simp only [h19]
        by_cases hmr : (ev : Int) ≤ (p : Int) - (y : Int)
        · skip
          have hd : decide ((ev : Int) ≤ (p : Int) - (y : Int)) = true := decide_eq_true hmr
          simp only [hd]
          have H9 := Lib.hid (hHq.weaken hsq)
          have k1 : wq.cell? ⟨ix, 1, none⟩ = some (.slice (some ⟨gm, 0, none⟩) lm mc) := (@Hp.cell _ _ _ H9.out ix _ _ (0, 0) List.mem_cons_self) (i := 1) rfl
          have k3 : wq.cell? ⟨ix, 3, none⟩ = some (.int .i64 (max X.tm t)) := (@Hp.cell _ _ _ H9.out ix _ _ (0, 0) List.mem_cons_self) (i := 3) rfl
          have kf1 : wq.frozen? ⟨ix, 1, none⟩ = false := @Hp.frozen _ _ _ H9.out ix _ _ List.mem_cons_self 1
          have hbm : (bx, Obj.cells #[.int .i64 o, .int .i64 t, .int .i64 p] 206 (0, 0)) ∈ (A7 ++ ((bx, Obj.cells #[.int .i64 o, .int .i64 t, .int .i64 p] 206 (0, 0)) :: (Am ++ F))) := by simp
          have b0 : wq.cell? ⟨bx, 0, none⟩ = some (.int .i64 o) := H9.out.cell (List.mem_cons_of_mem _ hbm) rfl
          have b1 : wq.cell? ⟨bx, 1, none⟩ = some (.int .i64 t) := H9.out.cell (List.mem_cons_of_mem _ hbm) rfl
          have b2 : wq.cell? ⟨bx, 2, none⟩ = some (.int .i64 p) := H9.out.cell (List.mem_cons_of_mem _ hbm) rfl
          have bf1 : wq.frozen? ⟨bx, 1, none⟩ = false := H9.out.frozen (List.mem_cons_of_mem _ hbm) 1
          clear hR hHq hsq hbm
          go_wp2_with fail
          obtain ⟨av, HRA, H10⟩ : ∃ av, Hid (RowM 206 3 av (X.adds.length + 1) (adsV X.adds ++ [.int .i64 o, .int .i64 0, .int .i64 p]) A7) ∧ Hid (Hp (wq.setCell ⟨bx, 1, none⟩ (.int .i64 (max X.tm t))) P (Am ++ ((bx, Obj.cells #[.int .i64 o, .int .i64 (max X.tm t), .int .i64 p] 206 (0, 0)) :: ((ix, Obj.cells #[.int .i64 X.every, .slice (some ⟨gm, 0, none⟩) lm mc, av, .int .i64 (max X.tm t)] 192 (0, 0)) :: (A7 ++ F))))) := by
            refine ⟨_, by rw [HLA.out]; exact HR7.out, ?_⟩
            have h1 := Hp.mid (A := (ix, _) :: A7) (B := [(bx, Obj.cells #[.int .i64 o, .int .i64 t, .int .i64 p] 206 (0, 0))]) (C := Am ++ F) H9.out
            have h2 := Hp.set (M := (ix, _) :: A7 ++ (Am ++ F)) h1 1 (.int .i64 (max X.tm t))
            have h3 := Hp.mid (A := (bx, _) :: (ix, _) :: A7) (B := Am) (C := F) (by simpa [ixC] using h2)
            show Hp _ P _
            simpa [ixC] using h3
          clear k1 k3 kf1 b0 b1 b2 bf1
          refine wp_region_ph (by kernel_rfl) (by decide) 7 10 (by kernel_rfl) ⟨by decide, by decide⟩ (by decide) _ (fun b P w2 v => match b with | 0 => Hp w2 P (Am ++ ((bx, Obj.cells #[.int .i64 o, .int .i64 (max X.tm t), .int .i64 p] 206 (0, 0)) :: ((ix, Obj.cells #[.int .i64 X.every, .slice (some ⟨gm, 0, none⟩) lm mc, av, .int .i64 (max X.tm t)] 192 (0, 0)) :: (A7 ++ F)))) | 1 => ∃ g cap Al, v = .slice (some ⟨g, 0, none⟩) (lm + 1) cap ∧ RowM 206 3 v (lm + 1) (mksV X.marks ++ (#[.int .i64 o, .int .i64 (max X.tm t), .int .i64 p] : Array Value).toList) Al ∧ Hp w2 P (Al ++ ((bx, Obj.cells #[.int .i64 o, .int .i64 (max X.tm t), .int .i64 p] 206 (0, 0)) :: ((ix, Obj.cells #[.int .i64 X.every, .slice (some ⟨gm, 0, none⟩) lm mc, av, .int .i64 (max X.tm t)] 192 (0, 0)) :: (A7 ++ F)))) | _ => ∃ Al, RowM 206 3 v (lm + 1) (mksV X.marks ++ (#[.int .i64 o, .int .i64 (max X.tm t), .int .i64 p] : Array Value).toList) Al ∧ Hp w2 P (Al ++ ((bx, Obj.cells #[.int .i64 o, .int .i64 (max X.tm t), .int .i64 p] 206 (0, 0)) :: ((ix, Obj.cells #[.int .i64 X.every, v, av, .int .i64 (max X.tm t)] 192 (0, 0)) :: (A7 ++ F))))) (fun v => H10.out.drew) (fun i P v => match i with | 0 => v = ptr ix | 1 => v = ptr ix | 2 => v = ptr ix | 3 => v = .pointer (some ⟨ix, 1, none⟩) | 4 => v = .slice (some ⟨gm, 0, none⟩) lm mc | 5 => v = .agg #[.int .i64 o, .int .i64 (max X.tm t), .int .i64 p] | 6 => ∃ b, v = .slice (some ⟨b, 0, none⟩) 1 1 ∧ P.m b = some (Obj.cells #[.int .i64 o, .int .i64 (max X.tm t), .int .i64 p] 206 (0, 0)) | 7 => True | 8 => v = ptr ix | 9 => v = .pointer (some ⟨ix, 1, none⟩) | 10 => True | _ => True) (by intro i P P' v hs h; rcases i with _ | _ | _ | _ | _ | _ | _ | _ | _ | _ | _ | i <;> first | exact h | (obtain ⟨b, h1, h2⟩ := h; exact ⟨b, h1, hs.m _ _ h2⟩)) ?_ ?_
          · intro i o ho b u w2 P2 hsq hJ hp q1 q2 q3 q4 K hK
            rcases i with _ | _ | _ | _ | _ | _ | _ | _ | _ | _ | _ | i
            · cases ho
              simp only [frOf, Act.put, List.setIfInBounds_toArray, List.set_cons_zero, List.set_cons_succ, Nat.zero_add, Nat.reduceAdd] at hK ⊢
              go_simp
              exact hK _ w2 P2 (Sub.refl _) hJ rfl
            · cases ho
              simp only [frOf, Act.put, List.setIfInBounds_toArray, List.set_cons_zero, List.set_cons_succ, Nat.zero_add, Nat.reduceAdd] at hK ⊢
              go_simp
              exact hK _ w2 P2 (Sub.refl _) hJ rfl
            · cases ho
              have h1 : u 1 = ptr ix := hp ⟨1, .data⟩ (by simp) rfl
              simp only [frOf, Act.put, List.setIfInBounds_toArray, List.set_cons_zero, List.set_cons_succ, Nat.zero_add, Nat.reduceAdd] at hK ⊢
              simp only [h1] at hK ⊢
              go_simp
              exact hK _ w2 P2 (Sub.refl _) hJ rfl
            · cases ho
              have h2 : u 2 = ptr ix := hp ⟨2, .data⟩ (by simp) rfl
              simp only [frOf, Act.put, List.setIfInBounds_toArray, List.set_cons_zero, List.set_cons_succ, Nat.zero_add, Nat.reduceAdd] at hK ⊢
              simp only [h2] at hK ⊢
              go_simp
              exact hK _ w2 P2 (Sub.refl _) hJ rfl
            · cases ho
              have h3 : u 3 = .pointer (some ⟨ix, 1, none⟩) := hp ⟨3, .data⟩ (by simp) rfl
              simp only [frOf, Act.put, List.setIfInBounds_toArray, List.set_cons_zero, List.set_cons_succ, Nat.zero_add, Nat.reduceAdd] at hK ⊢
              simp only [h3] at hK ⊢
              obtain rfl : b = 0 := ph0 (fun h => nomatch ((q1 h).1.symm.trans (by kernel_rfl : _ = true)))
              have hH2 : Hp w2 P2 (Am ++ ((bx, Obj.cells #[.int .i64 o, .int .i64 (max X.tm t), .int .i64 p] 206 (0, 0)) :: ((ix, Obj.cells #[.int .i64 X.every, .slice (some ⟨gm, 0, none⟩) lm mc, av, .int .i64 (max X.tm t)] 192 (0, 0)) :: (A7 ++ F)))) := hJ
              have kc : w2.cell? ⟨ix, 1, none⟩ = some (.slice (some ⟨gm, 0, none⟩) lm mc) := (@Hp.cell _ _ _ hH2 ix #[.int .i64 X.every, .slice (some ⟨gm, 0, none⟩) lm mc, av, .int .i64 (max X.tm t)] 192 (0, 0) (by simp)) rfl
              go_simp
              exact hK _ w2 P2 (Sub.refl _) hH2 rfl
            · cases ho
              simp only [frOf, Act.put, List.setIfInBounds_toArray, List.set_cons_zero, List.set_cons_succ, Nat.zero_add, Nat.reduceAdd] at hK ⊢
              obtain rfl : b = 0 := ph0 (fun h => nomatch ((q1 h).1.symm.trans (by kernel_rfl : _ = true)))
              have hH2 : Hp w2 P2 (Am ++ ((bx, Obj.cells #[.int .i64 o, .int .i64 (max X.tm t), .int .i64 p] 206 (0, 0)) :: ((ix, Obj.cells #[.int .i64 X.every, .slice (some ⟨gm, 0, none⟩) lm mc, av, .int .i64 (max X.tm t)] 192 (0, 0)) :: (A7 ++ F)))) := hJ
              have kb0 := (@Hp.cell _ _ _ hH2 bx #[.int .i64 o, .int .i64 (max X.tm t), .int .i64 p] 206 (0, 0) (by simp)) (i := 0) rfl
              have kb1 := (@Hp.cell _ _ _ hH2 bx #[.int .i64 o, .int .i64 (max X.tm t), .int .i64 p] 206 (0, 0) (by simp)) (i := 1) rfl
              have kb2 := (@Hp.cell _ _ _ hH2 bx #[.int .i64 o, .int .i64 (max X.tm t), .int .i64 p] 206 (0, 0) (by simp)) (i := 2) rfl
              go_simp
              exact hK _ w2 P2 (Sub.refl _) hH2 rfl
            · cases ho
              have h5 : u 5 = .agg #[.int .i64 o, .int .i64 (max X.tm t), .int .i64 p] := hp ⟨5, .data⟩ (by simp) rfl
              simp only [frOf, Act.put, List.setIfInBounds_toArray, List.set_cons_zero, List.set_cons_succ, Nat.zero_add, Nat.reduceAdd] at hK ⊢
              simp only [h5] at hK ⊢
              obtain rfl : b = 0 := ph0 (fun h => nomatch ((q1 h).1.symm.trans (by kernel_rfl : _ = true)))
              have hH2 : Hp w2 P2 (Am ++ ((bx, Obj.cells #[.int .i64 o, .int .i64 (max X.tm t), .int .i64 p] 206 (0, 0)) :: ((ix, Obj.cells #[.int .i64 X.every, .slice (some ⟨gm, 0, none⟩) lm mc, av, .int .i64 (max X.tm t)] 192 (0, 0)) :: (A7 ++ F)))) := hJ
              go_simp
              obtain ⟨P3, z1, z2, z3⟩ := hH2.lay (Obj.cells #[.int .i64 o, .int .i64 (max X.tm t), .int .i64 p] 206 (0, 0))
              exact hK _ _ P3 z1 z2 ⟨_, rfl, z3⟩
            · cases ho
              have h4 : u 4 = .slice (some ⟨gm, 0, none⟩) lm mc := hp ⟨4, .data⟩ (by simp) rfl
              have hr6 : ∃ b, u 6 = .slice (some ⟨b, 0, none⟩) 1 1 ∧ P2.m b = some (Obj.cells #[.int .i64 o, .int .i64 (max X.tm t), .int .i64 p] 206 (0, 0)) := hp ⟨6, .data⟩ (by simp) rfl
              obtain rfl : b = 0 := ph0 (fun h => (q1 h).2 rfl)
              have hH2 : Hp w2 P2 (Am ++ ((bx, Obj.cells #[.int .i64 o, .int .i64 (max X.tm t), .int .i64 p] 206 (0, 0)) :: ((ix, Obj.cells #[.int .i64 X.every, .slice (some ⟨gm, 0, none⟩) lm mc, av, .int .i64 (max X.tm t)] 192 (0, 0)) :: (A7 ++ F)))) := hJ
              simp only [frOf, Act.put, List.setIfInBounds_toArray, List.set_cons_zero, List.set_cons_succ, Nat.zero_add, Nat.reduceAdd] at hK ⊢
              obtain ⟨bb, h6, hbb⟩ := hr6
              simp only [h4, h6] at hK ⊢
              refine step_push2 (a := ⟨_, []⟩) (by rfl) _ _ _ (by rfl) 206 _ 3 24 Tryz.underlying190 infoMk (by rfl) (by omega) (.slice (some ⟨gm, 0, none⟩) lm mc) lm (mksV X.marks) (by rfl) hH2 HM.out bb #[.int .i64 o, .int .i64 (max X.tm t), .int .i64 p] (by rfl) hbb (by rfl) (by intro u hu; simp at hu; rcases hu with rfl | rfl | rfl <;> rfl) (by omega) (by omega) ?_
              intro g cap w3 Al hr3 hH3
              simp only [Act.put, List.setIfInBounds_toArray, List.set_cons_zero, List.set_cons_succ]
              exact hK _ w3 P2 (Sub.refl _) ⟨g, cap, Al, rfl, hr3, hH3⟩ trivial
            · cases ho
              have h0 : u 0 = ptr ix := hp ⟨0, .data⟩ (by simp) rfl
              simp only [frOf, Act.put, List.setIfInBounds_toArray, List.set_cons_zero, List.set_cons_succ, Nat.zero_add, Nat.reduceAdd] at hK ⊢
              simp only [h0] at hK ⊢
              go_simp
              exact hK _ w2 P2 (Sub.refl _) hJ rfl
            · cases ho
              have h8 : u 8 = ptr ix := hp ⟨8, .data⟩ (by simp) rfl
              simp only [frOf, Act.put, List.setIfInBounds_toArray, List.set_cons_zero, List.set_cons_succ, Nat.zero_add, Nat.reduceAdd] at hK ⊢
              simp only [h8] at hK ⊢
              go_simp
              exact hK _ w2 P2 (Sub.refl _) hJ rfl
            · cases ho
              simp only [frOf, Act.put, List.setIfInBounds_toArray, List.set_cons_zero, List.set_cons_succ, Nat.zero_add, Nat.reduceAdd] at hK ⊢
              have h9 : u 9 = .pointer (some ⟨ix, 1, none⟩) := hp ⟨9, .data⟩ (by simp) rfl
              obtain rfl : b = 1 := ph1 (q3 (by kernel_rfl)) (fun e => (q2 e).2 rfl) q4
              have hJ' : ∃ g cap Al, u 7 = .slice (some ⟨g, 0, none⟩) (lm + 1) cap ∧ RowM 206 3 (u 7) (lm + 1) (mksV X.marks ++ (#[.int .i64 o, .int .i64 (max X.tm t), .int .i64 p] : Array Value).toList) Al ∧ Hp w2 P2 (Al ++ ((bx, Obj.cells #[.int .i64 o, .int .i64 (max X.tm t), .int .i64 p] 206 (0, 0)) :: ((ix, Obj.cells #[.int .i64 X.every, .slice (some ⟨gm, 0, none⟩) lm mc, av, .int .i64 (max X.tm t)] 192 (0, 0)) :: (A7 ++ F)))) := hJ
              obtain ⟨g, cap, Al, h7, hr3, hH3⟩ := hJ'
              simp only [Nat.reduceEqDiff, if_true, if_false] at hK
              simp only [h9, h7] at hK hr3 ⊢
              have f1 := @Hp.frozen _ _ _ hH3 ix #[.int .i64 X.every, .slice (some ⟨gm, 0, none⟩) lm mc, av, .int .i64 (max X.tm t)] 192 (by simp) 1
              have kc : w2.cell? ⟨ix, 1, none⟩ = some (.slice (some ⟨gm, 0, none⟩) lm mc) := (@Hp.cell _ _ _ hH3 ix #[.int .i64 X.every, .slice (some ⟨gm, 0, none⟩) lm mc, av, .int .i64 (max X.tm t)] 192 (0, 0) (by simp)) rfl
              go_simp
              refine hK undef _ P2 (Sub.refl _) ⟨Al, hr3, ?_⟩ trivial
              have hz := (Hp.mid (A := Al ++ [(bx, Obj.cells #[.int .i64 o, .int .i64 (max X.tm t), .int .i64 p] 206 (0, 0))]) (B := [(ix, Obj.cells #[.int .i64 X.every, .slice (some ⟨gm, 0, none⟩) lm mc, av, .int .i64 (max X.tm t)] 192 (0, 0))]) (C := A7 ++ F) (by simpa [List.append_assoc] using hH3)).set 1 (.slice (some ⟨g, 0, none⟩) (lm + 1) cap)
              have hy := Hp.mid (A := [_]) (B := Al ++ [(bx, Obj.cells #[.int .i64 o, .int .i64 (max X.tm t), .int .i64 p] 206 (0, 0))]) (C := A7 ++ F) hz
              simpa [List.append_assoc] using hy
            · exact absurd ho (by simp)
          · intro u w2 P2 hsq hJ hR
            obtain ⟨Al, hr3, hH3⟩ := hJ
            simp only [frOf, List.setIfInBounds_toArray, List.set_cons_zero, List.set_cons_succ, Nat.zero_add, Nat.reduceAdd]
            go_wp2_with fail
            have hmore : X.more p = true := by unfold Ix.more; rw [HLP.out, HEV.out]; simp; omega
            have e1 : (X.add o t p).marks = X.marks ++ [(o, max X.tm t, p)] := by unfold Ix.add; simp [hmore]
            have h4 := (Hp.mid (A := Al) (B := [(bx, _)]) (hH3.weaken hsq)).tail
            have h5 := Hp.mid (A := Al) (B := [(ix, _)]) h4
            go_ret
            refine ⟨rfl, (ix, Obj.cells (ixC (X.add o t p) (u 7) av) 192 (0, 0)) :: (Al ++ A7), ⟨u 7, av, Al, A7, rfl, ?_, ?_⟩, ?_⟩
            · rw [e1, List.length_append, HLM.out, mksV_app]; exact hr3
            · show RowM _ 3 av (X.adds ++ [(o, p)]).length (adsV (X.adds ++ [(o, p)])) A7
              rw [List.length_append, adsV_app]; exact HRA.out
            · simpa [ixC, Ix.add] using h5
        · skip
          have hd : decide ((ev : Int) ≤ (p : Int) - (y : Int)) = false := decide_eq_false hmr
          simp only [hd]
          have H9 := Lib.hid (hHq.weaken hsq)
          clear hR hHq hsq
          go_wp2_with fail
          have hmore : X.more p = false := by unfold Ix.more; rw [HLP.out, HEV.out, HNE.out]; simp; omega
          have e1 : (X.add o t p).marks = X.marks := by unfold Ix.add; simp [hmore]
          obtain ⟨av, HRA, H10⟩ : ∃ av, Hid (RowM 206 3 av (X.adds.length + 1) (adsV X.adds ++ [.int .i64 o, .int .i64 0, .int .i64 p]) A7) ∧ Hid (Hp wq P ((ix, Obj.cells #[.int .i64 X.every, .slice (some ⟨gm, 0, none⟩) lm mc, av, .int .i64 (max X.tm t)] 192 (0, 0)) :: (A7 ++ ((bx, Obj.cells #[.int .i64 o, .int .i64 t, .int .i64 p] 206 (0, 0)) :: (Am ++ F))))) := by
            refine ⟨_, by rw [HLA.out]; exact HR7.out, ?_⟩
            show Hp _ _ _
            simpa [ixC] using H9.out
          have h1 := (Hp.mid (A := (ix, _) :: A7) (B := [(bx, _)]) (C := Am ++ F) H10.out).tail
          have h2 := Hp.mid (A := (ix, _) :: A7) (B := Am) (C := F) (by simpa using h1)
          have h3 := Hp.mid (A := Am) (B := [(ix, _)]) (C := A7 ++ F) (by simpa using h2)
          go_ret
          refine ⟨rfl, (ix, Obj.cells (ixC (X.add o t p) (.slice (some ⟨gm, 0, none⟩) lm mc) av) 192 (0, 0)) :: (Am ++ A7), ⟨.slice (some ⟨gm, 0, none⟩) lm mc, av, Am, A7, rfl, ?_, ?_⟩, ?_⟩
          · rw [e1, HLM.out]; exact HM.out
          · show RowM _ 3 av (X.adds ++ [(o, p)]).length (adsV (X.adds ++ [(o, p)])) A7
            rw [List.length_append, adsV_app]; exact HRA.out
          · simpa [ixC, Ix.add] using h3
end
end Go.Proofs.YtepmblomgmghcaaGreatDoor.Sg

/-! Ic -/
namespace Go.Proofs.YtepmblomgmghcaaGreatDoor.Sg
open Go.RowKit Er Go.Maps

theorem lastOf' {α : Type} (l : List α) : l = [] ∨ ∃ m x, l = m ++ [x] := by
  rcases List.eq_nil_or_concat l with h | ⟨m, x, h⟩
  · exact .inl h
  · exact .inr ⟨m, x, by rw [h, List.concat_eq_append]⟩

/-- Bytes with their sum behind. -/
def sealB (b : List Nat) : List Nat := b ++ leB (crcF 0 b) 4
theorem sealB_lt (b : List Nat) (h : ∀ x ∈ b, x < 256) : ∀ x ∈ sealB b, x < 256 := by
  intro x hx
  rcases List.mem_append.1 hx with hx | hx
  · exact h x hx
  · exact leB_lt _ _ x hx
theorem leB4 (c : Nat) (h : c < 4294967296) : bcells (leB c 4) = [.int .u8 ((c : Int) % 256), .int .u8 ((c : Int) / 256 % 256), .int .u8 ((c : Int) / 65536 % 256), .int .u8 ((c : Int) / 16777216)] := by
  simp [leB, bcells, List.range_succ]
  omega

/-- The first two blocks change places. -/
theorem Hp.swap {w : World} {P : Pm} {x y : Nat × Obj} {M : Mm} (h : Hp w P (x :: y :: M)) : Hp w P (y :: x :: M) := Hp.mid (A := [x]) (B := [y]) (C := M) h
/-- New bytes that a call hands back are laid by for good. -/
theorem Hp.newBytes {w w' : World} {P : Pm} {F : Mm} (hH : Hp w P F) {v : Value} {n : Nat} {xs : List Nat} (hb : Below w.heap.size w w') (ho : w'.ownsRow w.heap.size 5 1 v n (bcells xs)) :
    ∃ P', Sub P P' ∧ Hp w' P' F ∧ Pers P' (fun w => SlB w v xs) := by
  obtain ⟨A, hr, hH'⟩ := hH.rowNew (hH.below hb (Nat.le_refl _)) ho (Nat.le_refl _)
  exact hH'.sealBytes hr

set_option maxRecDepth 100000 in
set_option maxHeartbeats 1000000 in
theorem seal_any (v : Value) (xs : List Nat) (w : World) (h : SlB w v xs) (hx : ∀ x ∈ xs, x < 256) (hl : xs.length ≤ 1099511627776) :
    Calls Tryz.prog 154 #[v] w fun e w' => (∃ v', e = .returned v' ∧ w'.ownsRow w.heap.size 5 1 v' (sealB xs).length (bcells (sealB xs))) ∧ Below w.heap.size w w' := by
  obtain ⟨va, vc, rfl, hvc⟩ := h.shape
  have HY0 := Lib.hid (h.below ((Below.refl _ _).alloc (Nat.le_refl _) (.cells #[.slice va xs.length vc] 22)) rfl)
  have hcr := crcF_lt 0 xs
  obtain ⟨c, hc⟩ : ∃ c, crcF 0 xs = c := ⟨_, rfl⟩
  rw [hc] at hcr
  have HC := Lib.hid hc
  clear h hc
  go_enter Tryz.func154, Tryz.ntmps154
  go_wp2_with fail
  refine (of_any _ _ (.slice va xs.length vc) xs _ (by go_simp) (by simp) HY0.out hx hl).mono ?_
  rintro e w1 ⟨rfl, hb1⟩
  rw [HC.out]
  have hb01 : Below w.heap.size w w1 := ((Below.refl _ _).alloc (Nat.le_refl _) _).trans (hb1.mono (by simp))
  have HY1 := Lib.hid (HY0.out.below hb1 rfl)
  have HB1 := Lib.hid hb01
  clear hb1 hb01
  go_wp2_with fail
  refine (clone_any _ xs _ HY1.out hl).mono ?_
  rintro e w2 ⟨⟨v2, rfl, hown2, -⟩, hb2⟩
  have hs1 := HB1.out.size
  have hb02 := HB1.out.trans (hb2.mono hs1)
  have hs2 := hb02.size
  have HO2 := Lib.hid (owns_bound hown2 hs1)
  have HB2 := Lib.hid hb02
  have HN := Lib.hid (slB_new w2 (leB c 4) 5)
  rw [leB4 c hcr, leB_len] at HN
  clear hown2 hb2 hb02
  go_wp2_with (at_builtin; refine wpList_append_bytes rfl _ _ rfl w.heap.size _ _ _ rfl (HO2.out.alloc _) _ (leB c 4) rfl HN.out ?c3 ?c5 ?_)
  case c3 => rw [leB_len]; omega
  case c5 => simp; omega
  intro v6 w6 hown6 hgr6 _ _
  have HO6 := Lib.hid hown6
  have HG6 := Lib.hid hgr6
  clear hown6 hgr6
  go_wp2_with fail
  go_ret
  refine ⟨⟨_, rfl, ?_⟩, ?_⟩
  · have := HO6.out
    unfold sealB
    rw [HC.out, List.length_append]
    exact this
  · exact (HB2.out.alloc (by omega) _).grown HG6.out (by simp; omega) (own_fresh HO2.out)


theorem u64wrap (z : Int) : IntKind.u64.wrap z = z % 18446744073709551616 := by
  simp only [IntKind.wrap, IntKind.bits, IntKind.signed]; simp
def u64of (z : Int) : Nat := (z % 18446744073709551616).toNat
theorem u64of_eq (z : Int) : IntKind.u64.wrap z = ((u64of z : Nat) : Int) := by rw [u64wrap]; unfold u64of; omega
theorem u64of_lt (z : Int) : u64of z < 18446744073709551616 := by unfold u64of; omega
def mkBy (l m : Int × Int × Nat) : List Nat := vput (u64of (m.1 - l.1)) ++ vput (zig (m.2.1 - l.2.1)) ++ vput (u64of ((m.2.2 : Int) - l.2.2))
def mksBy : List (Int × Int × Nat) → Int × Int × Nat → List Nat
  | [], _ => []
  | m :: r, l => mkBy l m ++ mksBy r m
def endM (l : List (Int × Int × Nat)) (d : Int × Int × Nat) : Int × Int × Nat := l.getLast?.getD d
theorem endM_snoc (l : List (Int × Int × Nat)) (d m : Int × Int × Nat) : endM (l ++ [m]) d = m := by simp [endM]
theorem mksBy_snoc : ∀ (l : List (Int × Int × Nat)) (d m : Int × Int × Nat), mksBy (l ++ [m]) d = mksBy l d ++ mkBy (endM l d) m
  | [], d, m => by simp [mksBy, endM]
  | x :: l, d, m => by
    show mkBy d x ++ mksBy (l ++ [m]) x = mkBy d x ++ mksBy l x ++ mkBy (endM (x :: l) d) m
    rw [mksBy_snoc l x m, List.append_assoc]
    congr 3
    cases l with
    | nil => simp [endM]
    | cons y l => simp [endM, List.getLast?_cons]
/-- An index as bytes. -/
def ixB (X : Ix) : List Nat := sealB (vput X.every ++ vput X.marks.length ++ mksBy X.marks (0, 0, 0))

structure IxGood (X : Ix) : Prop where
  ev : X.every ≤ 1048576
  len : X.marks.length ≤ 1000000
  mks : ∀ m, m ∈ X.marks → 0 ≤ m.1 ∧ m.1 ≤ 1099511627776 ∧ -1099511627776 ≤ m.2.1 ∧ m.2.1 ≤ 1099511627776 ∧ m.2.2 ≤ 1073741824
theorem mkBy_len (l m : Int × Int × Nat) (h1 : -1099511627776 ≤ l.2.1 ∧ l.2.1 ≤ 1099511627776) (h2 : -1099511627776 ≤ m.2.1 ∧ m.2.1 ≤ 1099511627776) : (mkBy l m).length ≤ 30 := by
  have a := vput_len64 _ (u64of_lt (m.1 - l.1))
  have b := vput_len64 _ (show zig (m.2.1 - l.2.1) < 18446744073709551616 by have := zig_lt (m.2.1 - l.2.1) (by omega) (by omega); omega)
  have c := vput_len64 _ (u64of_lt ((m.2.2 : Int) - l.2.2))
  simp only [mkBy, List.length_append]; omega
theorem mksBy_len : ∀ (r : List (Int × Int × Nat)) (l : Int × Int × Nat), (-1099511627776 ≤ l.2.1 ∧ l.2.1 ≤ 1099511627776) → (∀ m, m ∈ r → -1099511627776 ≤ m.2.1 ∧ m.2.1 ≤ 1099511627776) → (mksBy r l).length ≤ 30 * r.length
  | [], l, _, _ => by simp [mksBy]
  | m :: r, l, h, hr => by
    have h1 := mkBy_len l m h (hr m List.mem_cons_self)
    have h2 := mksBy_len r m (hr m List.mem_cons_self) (fun x hx => hr x (List.mem_cons_of_mem _ hx))
    simp only [mksBy, List.length_append, List.length_cons]; omega
theorem mksBy_lt : ∀ (r : List (Int × Int × Nat)) (l : Int × Int × Nat), ∀ x ∈ mksBy r l, x < 256
  | [], l, x, hx => by simp [mksBy] at hx
  | m :: r, l, x, hx => by
    simp only [mksBy, mkBy, List.mem_append] at hx
    rcases hx with ((hx | hx) | hx) | hx
    · exact vput_lt _ x hx
    · exact vput_lt _ x hx
    · exact vput_lt _ x hx
    · exact mksBy_lt r m x hx

section
variable {P : Pm} {ix : Nat} {X : Ix} {A F : Mm} {w : World}

/-- What of an index is read. -/
def IxR (w : World) (ix : Nat) (X : Ix) (mv : Value) : Prop := w.cell? ⟨ix, 0, none⟩ = some (.int .i64 X.every) ∧ w.cell? ⟨ix, 1, none⟩ = some mv ∧
    ∀ (k : Nat) (m : Int × Int × Nat), X.marks[k]? = some m → ∃ g c, mv = .slice (some ⟨g, 0, none⟩) X.marks.length c ∧ X.marks.length ≤ c ∧ w.cell? ⟨g, k * 3, none⟩ = some (.int .i64 m.1) ∧ w.cell? ⟨g, k * 3 + 1, none⟩ = some (.int .i64 m.2.1) ∧ w.cell? ⟨g, k * 3 + 2, none⟩ = some (.int .i64 m.2.2)
def IxP (P : Pm) (ix : Nat) (X : Ix) : Prop := ∃ ma mc, Pers P (fun w => IxR w ix X (.slice ma X.marks.length mc))
theorem IxP.sub {P' : Pm} (h : IxP P ix X) (s : Sub P P') : IxP P' ix X := by
  obtain ⟨ma, mc, h⟩ := h
  exact ⟨ma, mc, h.sub s⟩
theorem mksV_at : ∀ (l : List (Int × Int × Nat)) (k j : Nat) (u : Value) (m : Int × Int × Nat), l[k]? = some m → (mkV m)[j]? = some u → (mksV l)[k * 3 + j]? = some u := by
  intro l
  induction l with
  | nil => intro k j u m h; simp at h
  | cons x l ih =>
    intro k j u m h hu
    have hj : j < 3 := by have := (List.getElem?_eq_some_iff.1 hu).1; simpa [mkV] using this
    show (mkV x ++ mksV l)[k * 3 + j]? = some u
    rcases k with _ | k
    · simp at h; subst h
      rw [List.getElem?_append_left (by simp [mkV]; omega)]; simpa using hu
    · rw [List.getElem?_append_right (by simp [mkV]; omega)]
      have := ih k j u m (by simpa using h) hu
      rwa [show (k + 1) * 3 + j - (mkV x).length = k * 3 + j from by simp [mkV]; omega]
theorem IxM.read (h : IxM ix X A) : ∃ ma mc, ∀ w P F, Hp w P (A ++ F) → IxR w ix X (.slice ma X.marks.length mc) := by
  obtain ⟨mv, av, Am, Aa, rfl, hm, ha⟩ := h
  obtain ⟨ma, mc, rfl⟩ := hm.shape
  refine ⟨ma, mc, fun w P F hH => ?_⟩
  have hb : (ix, Obj.cells (ixC X (.slice ma X.marks.length mc) av) 192 (0, 0)) ∈ (ix, Obj.cells (ixC X (.slice ma X.marks.length mc) av) 192 (0, 0)) :: (Am ++ Aa) ++ F := by simp
  refine ⟨hH.cell hb rfl, hH.cell hb rfl, fun k m hk => ?_⟩
  have hH2 : Hp w P (Am ++ ((ix, Obj.cells (ixC X (.slice ma X.marks.length mc) av) 192 (0, 0)) :: (Aa ++ F))) := by
    have h1 := Hp.mid (A := [(ix, Obj.cells (ixC X (.slice ma X.marks.length mc) av) 192 (0, 0))]) (B := Am) (C := Aa ++ F) (by simpa using hH)
    simpa using h1
  obtain ⟨g, c, e, hc, y0⟩ := hm.cell hH2 (mksV_at X.marks k 0 _ m hk rfl)
  obtain ⟨g1, c1, e1, -, y1⟩ := hm.cell hH2 (mksV_at X.marks k 1 _ m hk rfl)
  obtain ⟨g2, c2, e2, -, y2⟩ := hm.cell hH2 (mksV_at X.marks k 2 _ m hk rfl)
  rw [e] at e1 e2
  cases e1; cases e2
  exact ⟨g, c, e, hc, y0, y1, y2⟩
/-- All but F is let be for good. -/
theorem Hp.sealTo {M : Mm} (h : Hp w P (M ++ F)) : ∃ P', Sub P P' ∧ Hp w P' F ∧ ∀ x, x ∈ M → P'.m x.1 = some x.2 := by
  have h1 := h.drop.all
  refine ⟨_, h1.1, h1.2, fun x hx => ?_⟩
  have hn : x.1 ∉ ids F := fun hm => by
    have := h.nodup
    rw [List.map_append] at this
    exact (List.nodup_append.1 this).2.2 x.1 (List.mem_map.2 ⟨x, hx, rfl⟩) x.1 hm rfl
  show (if x.1 ∈ ids F then none else w.heap[x.1]?) = some x.2
  rw [if_neg hn]; exact h.own x (List.mem_append_left _ hx)
theorem Hp.of_agr {M : Mm} (hnd : (M.map (·.1)).Nodup) (hM : ∀ x, x ∈ M → P.m x.1 = some x.2) {w : World} (hw : Agr P w) : Hp w (Pm.all w M) M :=
  ⟨⟨rfl, rfl, rfl, Nat.le_refl _, fun b o hb => by
    change (if b ∈ ids M then none else w.heap[b]?) = some o at hb
    by_cases e : b ∈ ids M
    · rw [if_pos e] at hb; cases hb
    · rw [if_neg e] at hb; exact hb⟩, fun x hx => hw.m _ _ (hM x hx), hnd, fun x hx => if_pos (List.mem_map.2 ⟨x, hx, rfl⟩)⟩
theorem IxM.seal (h : IxM ix X A) (hH : Hp w P (A ++ F)) : ∃ P', Sub P P' ∧ Hp w P' F ∧ IxP P' ix X := by
  obtain ⟨P', h1, h2, h3⟩ := hH.sealTo
  obtain ⟨ma, mc, hr⟩ := h.read
  refine ⟨P', h1, h2, ma, mc, fun w' hw => ?_⟩
  have hnd := hH.nodup
  rw [List.map_append] at hnd
  have := Hp.of_agr (P := P') (List.nodup_append.1 hnd).1 h3 hw
  exact hr _ _ [] (by simpa using this)

/-- What holds at the head of index.Bytes's loop. -/
def BysRel (P : Pm) (M : Mm) (X : Ix) (bl m : Nat) (vb vi : Value) (w : World) : Prop :=
  ∃ (k : Nat) (P' : Pm), k + m = X.marks.length ∧ vi = .int .i64 k ∧ Sub P P' ∧ Pers P' (fun w => SlB w vb (vput X.every ++ vput X.marks.length ++ mksBy (X.marks.take k) (0, 0, 0))) ∧
    Hp w P' ((bl, Obj.cells #[.int .i64 (endM (X.marks.take k) (0, 0, 0)).1, .int .i64 (endM (X.marks.take k) (0, 0, 0)).2.1, .int .i64 (endM (X.marks.take k) (0, 0, 0)).2.2] 206 (0, 0)) :: M)

set_option maxRecDepth 100000 in
set_option maxHeartbeats 2000000 in
theorem ixbytes_ok (hI : IxP P ix X) (hg : IxGood X) (hH : Hp w P F) :
    Calls Tryz.prog 115 #[ptr ix] w fun e w' => ∃ v P', e = .returned v ∧ Sub P P' ∧ Pers P' (fun w => SlB w v (ixB X)) ∧ Hp w' P' F := by
  obtain ⟨ma, mc, hI⟩ := hI
  obtain ⟨c0, c1, -⟩ := hH.use hI
  obtain ⟨n, hn⟩ : ∃ n, X.marks.length = n := ⟨_, rfl⟩
  have hev := hg.ev
  have hln := hg.len
  rw [hn] at hln c1
  have HN := Lib.hid hn
  have HG := Lib.hid hg
  have HI := Lib.hid hI
  have H0 := Lib.hid hH
  clear hn hg hI hH
  go_enter Tryz.func115, Tryz.ntmps115
  go_wp2_with fail
  refine (put_any X.every (by omega) _ [] _ (SlB.nil _) (by simp)).mono ?_
  rintro e w1 ⟨⟨v1, rfl, ho1⟩, hb1⟩
  obtain ⟨P1, hs1, hH1, hp1⟩ := H0.out.newBytes hb1 ho1
  rw [List.nil_append] at hp1
  have hq1 := vput_len64 X.every (by omega)
  obtain ⟨b1, x1, rfl, hx1⟩ := (hH1.use hp1).shape
  obtain ⟨c0, c1, -⟩ := hH1.use (HI.out.sub hs1)
  rw [HN.out] at c1
  have HP1 := Lib.hid hp1
  have HS1 := Lib.hid hs1
  have H1 := Lib.hid hH1
  clear ho1 hb1 hp1 hs1 hH1
  go_wp2_with fail
  refine (put_any n (by omega) _ (vput X.every) _ (H1.out.use HP1.out) (by omega)).mono ?_
  rintro e w2 ⟨⟨v2, rfl, ho2⟩, hb2⟩
  obtain ⟨P2, hs2, hH2, hp2⟩ := H1.out.newBytes hb2 ho2
  have hq2 := vput_len64 n (by omega)
  obtain ⟨b2, x2, rfl, hx2⟩ := (hH2.use hp2).shape
  obtain ⟨c0, c1, -⟩ := hH2.use (HI.out.sub (HS1.out.trans hs2))
  rw [HN.out] at c1
  have hixl : ix < w2.heap.size := World.block_lt_of_cell? _ _ c1
  have HP2 := Lib.hid hp2
  have HS2 := Lib.hid (HS1.out.trans hs2)
  have H3 := Lib.hid (hH2.alloc (.cells #[.int .i64 0, .int .i64 0, .int .i64 0] 206))
  obtain ⟨bl, hbl⟩ : ∃ bl, w2.heap.size = bl := ⟨_, rfl⟩
  rw [hbl] at H3
  have HBL := Lib.hid hbl
  clear ho2 hb2 hp2 hs2 hH2 hbl
  go_wp2_with fail
  rw [HBL.out]
  go_loopg [3, 26] n (fun m vb vi wr => BysRel P F X bl m vb vi wr)
  case atStart => exact ⟨0, P2, by rw [HN.out]; omega, rfl, HS2.out, by simpa [mksBy, HN.out] using HP2.out, by simpa [endM] using H3.out⟩
  case round =>
    obtain ⟨k, P3, hk, rfl, hs3, hp3, hHr⟩ := hrel
    rw [HN.out] at hk
    by_cases hlt : k < n
    · obtain ⟨gj, rfl⟩ : ∃ x, gk = x + 1 := ⟨gk - 1, by omega⟩
      have hkl : k < X.marks.length := by rw [HN.out]; exact hlt
      obtain ⟨⟨mo, mt, mp⟩, hx⟩ : ∃ x, X.marks[k] = x := ⟨_, rfl⟩
      obtain ⟨⟨lo, lt, lp⟩, hl⟩ : ∃ x, endM (X.marks.take k) (0, 0, 0) = x := ⟨_, rfl⟩
      have htn : mksBy (X.marks.take (k + 1)) (0, 0, 0) = mksBy (X.marks.take k) (0, 0, 0) ++ mkBy (lo, lt, lp) (mo, mt, mp) := by rw [take_next _ k hkl, mksBy_snoc, hl, hx]
      have hen : endM (X.marks.take (k + 1)) (0, 0, 0) = (mo, mt, mp) := by rw [take_next _ k hkl, endM_snoc, hx]
      obtain ⟨m1, m2, m3, m4, m5⟩ := HG.out.mks (mo, mt, mp) (by rw [← hx]; exact List.getElem_mem hkl)
      have hlb : 0 ≤ lo ∧ lo ≤ 1099511627776 ∧ -1099511627776 ≤ lt ∧ lt ≤ 1099511627776 ∧ lp ≤ 1073741824 := by
        rcases lastOf' (X.marks.take k) with h | ⟨l0, y, h⟩
        · rw [h] at hl; cases hl; decide
        · rw [h, endM_snoc] at hl
          subst hl
          exact HG.out.mks (lo, lt, lp) (List.mem_of_mem_take (i := k) (by rw [h]; simp))
      obtain ⟨l1, l2, l3, l4, l5⟩ := hlb
      obtain ⟨pre, hpre⟩ : ∃ b, vput X.every ++ vput n ++ mksBy (X.marks.take k) (0, 0, 0) = b := ⟨_, rfl⟩
      have hpl : pre.length ≤ 100000000 := by
        have h1 := mksBy_len (X.marks.take k) (0, 0, 0) (by decide) (fun m hm => by have := HG.out.mks m (List.mem_of_mem_take hm); exact ⟨this.2.2.1, this.2.2.2.1⟩)
        have h2 : (X.marks.take k).length ≤ k := by simp; omega
        rw [← hpre]; simp only [List.length_append]; omega
      rw [HN.out, hpre] at hp3
      rw [hl] at hHr
      obtain ⟨-, -, hmc⟩ := hHr.use (HI.out.sub hs3)
      obtain ⟨gm, cm, e, hcm, y0, y1, y2⟩ := hmc k (mo, mt, mp) (by rw [List.getElem?_eq_getElem hkl, hx])
      cases e
      rw [HN.out] at hcm
      obtain ⟨vba, vbc, rfl, hvb⟩ := (hHr.use hp3).shape
      have d0 := (@Hp.cell _ _ _ hHr bl _ _ (0, 0) List.mem_cons_self) (i := 0) rfl
      have d1 := (@Hp.cell _ _ _ hHr bl _ _ (0, 0) List.mem_cons_self) (i := 1) rfl
      have d2 := (@Hp.cell _ _ _ hHr bl _ _ (0, 0) List.mem_cons_self) (i := 2) rfl
      have dl : bl < wr.heap.size := hHr.lt List.mem_cons_self
      have H6 := Lib.hid (hHr.alloc (.cells #[.int .i64 mo, .int .i64 mt, .int .i64 mp] 206))
      have HP3 := Lib.hid hp3
      have HS3 := Lib.hid hs3
      have HTN := Lib.hid htn
      have HEN := Lib.hid hen
      have HPRE := Lib.hid hpre
      obtain ⟨bm, hbm⟩ : ∃ bm, wr.heap.size = bm := ⟨_, rfl⟩
      rw [hbm] at H6
      have HBM := Lib.hid hbm
      have j2 : (k : Int) < (n : Int) := by omega
      have j3 : (0 : Int) ≤ (k : Int) := by omega
      clear hmc hHr hp3 hs3 htn hen hpre hx hl hbm
      go_wp2_with fail
      rw [HBM.out, u64of_eq]
      refine (put_any (u64of (mo - lo)) (u64of_lt _) _ pre _ (H6.out.use HP3.out) (by omega)).mono ?_
      rintro e w7 ⟨⟨v7, rfl, ho7⟩, hb7⟩
      obtain ⟨P7, hs7, hH7, hp7⟩ := H6.out.newBytes hb7 ho7
      have e1 := (@Hp.cell _ _ _ hH7 bm _ _ (0, 0) List.mem_cons_self) (i := 1) rfl
      have f1 := (@Hp.cell _ _ _ hH7 bl _ _ (0, 0) (List.mem_cons_of_mem _ List.mem_cons_self)) (i := 1) rfl
      obtain ⟨v7a, v7c, rfl, hv7⟩ := (hH7.use hp7).shape
      have hq7 := vput_len64 _ (u64of_lt (mo - lo))
      obtain ⟨n7, hn7⟩ : ∃ b, vput (u64of (mo - lo)) = b := ⟨_, rfl⟩
      rw [hn7] at hp7 hq7 hv7 ⊢
      have hl7 : (pre ++ n7).length ≤ 100000010 := by rw [List.length_append]; omega
      obtain ⟨l7, hl7e⟩ : ∃ l, (pre ++ n7).length = l := ⟨_, rfl⟩
      rw [hl7e] at hp7 hv7 hl7 ⊢
      have HL7 := Lib.hid hl7e
      clear hl7e
      have HP7 := Lib.hid hp7
      have HS7 := Lib.hid (HS3.out.trans hs7)
      have H7 := Lib.hid hH7
      have HN7 := Lib.hid hn7
      clear ho7 hb7 hs7 hH7 hp7 hn7
      go_wp2_with fail
      refine (putint_any (mt - lt) (by omega) (by omega) _ (pre ++ n7) _ (H7.out.use HP7.out) (by rw [HL7.out]; omega)).mono ?_
      rintro e w8 ⟨⟨v8, rfl, ho8⟩, hb8⟩
      obtain ⟨P8, hs8, hH8, hp8⟩ := H7.out.newBytes hb8 ho8
      have e2 := (@Hp.cell _ _ _ hH8 bm _ _ (0, 0) List.mem_cons_self) (i := 2) rfl
      have f2 := (@Hp.cell _ _ _ hH8 bl _ _ (0, 0) (List.mem_cons_of_mem _ List.mem_cons_self)) (i := 2) rfl
      obtain ⟨v8a, v8c, rfl, hv8⟩ := (hH8.use hp8).shape
      have hq8 := vput_len64 _ (show zig (mt - lt) < 18446744073709551616 by have := zig_lt (mt - lt) (by omega) (by omega); omega)
      obtain ⟨n8, hn8⟩ : ∃ b, vput (zig (mt - lt)) = b := ⟨_, rfl⟩
      rw [hn8] at hp8 hq8 hv8 ⊢
      have hl8 : (pre ++ n7 ++ n8).length ≤ 100000020 := by rw [List.length_append, HL7.out]; omega
      obtain ⟨l8, hl8e⟩ : ∃ l, (pre ++ n7 ++ n8).length = l := ⟨_, rfl⟩
      rw [hl8e] at hp8 hv8 hl8 ⊢
      have HL8 := Lib.hid hl8e
      clear hl8e
      have HP8 := Lib.hid hp8
      have HS8 := Lib.hid (HS7.out.trans hs8)
      have H8 := Lib.hid hH8
      have HN8 := Lib.hid hn8
      clear ho8 hb8 hs8 hH8 hp8 hn8
      go_wp2_with fail
      rw [u64of_eq]
      refine (put_any (u64of ((mp : Int) - (lp : Int))) (u64of_lt _) _ (pre ++ n7 ++ n8) _ (H8.out.use HP8.out) (by rw [HL8.out]; omega)).mono ?_
      rintro e w9 ⟨⟨v9, rfl, ho9⟩, hb9⟩
      obtain ⟨P9, hs9, hH9, hp9⟩ := H8.out.newBytes hb9 ho9
      have g0 := (@Hp.cell _ _ _ hH9 bm _ _ (0, 0) List.mem_cons_self) (i := 0) rfl
      have g1 := (@Hp.cell _ _ _ hH9 bm _ _ (0, 0) List.mem_cons_self) (i := 1) rfl
      have g2 := (@Hp.cell _ _ _ hH9 bm _ _ (0, 0) List.mem_cons_self) (i := 2) rfl
      have hl0 := (@Hp.cell _ _ _ hH9 bl _ _ (0, 0) (List.mem_cons_of_mem _ List.mem_cons_self)) (i := 0) rfl
      have hl1 := (@Hp.cell _ _ _ hH9 bl _ _ (0, 0) (List.mem_cons_of_mem _ List.mem_cons_self)) (i := 1) rfl
      have hl2 := (@Hp.cell _ _ _ hH9 bl _ _ (0, 0) (List.mem_cons_of_mem _ List.mem_cons_self)) (i := 2) rfl
      have hf0 := @Hp.frozen _ _ _ hH9 bl _ _ (List.mem_cons_of_mem _ List.mem_cons_self) 0
      have hf1 := @Hp.frozen _ _ _ hH9 bl _ _ (List.mem_cons_of_mem _ List.mem_cons_self) 1
      have hf2 := @Hp.frozen _ _ _ hH9 bl _ _ (List.mem_cons_of_mem _ List.mem_cons_self) 2
      have hp9' : Pers P9 (fun w => SlB w v9 (vput X.every ++ vput n ++ mksBy (X.marks.take (k + 1)) (0, 0, 0))) := by
        rw [HTN.out, ← List.append_assoc, HPRE.out]
        show Pers P9 (fun w => SlB w v9 (pre ++ (vput (u64of (mo - lo)) ++ vput (zig (mt - lt)) ++ vput (u64of ((mp : Int) - (lp : Int))))))
        rw [HN7.out, HN8.out, ← List.append_assoc, ← List.append_assoc]
        exact hp9
      have HP9 := Lib.hid hp9'
      have HS9 := Lib.hid (HS8.out.trans hs9)
      have H9 := Lib.hid hH9.swap
      clear ho9 hb9 hs9 hH9 hp9 hp9'
      go_wp2_with fail
      go_roundg gj
      case measure => omega
      case rel =>
        refine ⟨k + 1, P9, by rw [HN.out]; omega, by simp, HS9.out, by rw [HN.out]; exact HP9.out, ?_⟩
        rw [HEN.out]
        have h1 := ((H9.out.set 0 (.int .i64 mo)).set 1 (.int .i64 mt)).set 2 (.int .i64 mp)
        have h2 := h1.swap.tail
        simpa using h2
    · have hkn : k = n := by omega
      have e : X.marks.take k = X.marks := by rw [hkn, ← HN.out]; exact List.take_length
      rw [e, HN.out] at hp3
      have hlt2 : ∀ x ∈ vput X.every ++ vput n ++ mksBy X.marks (0, 0, 0), x < 256 := by
        intro x hx
        simp only [List.mem_append] at hx
        rcases hx with (hx | hx) | hx
        · exact vput_lt _ x hx
        · exact vput_lt _ x hx
        · exact mksBy_lt _ _ x hx
      have hll : (vput X.every ++ vput n ++ mksBy X.marks (0, 0, 0)).length ≤ 100000000 := by
        have h1 := mksBy_len X.marks (0, 0, 0) (by decide) (fun m hm => by have := HG.out.mks m hm; exact ⟨this.2.2.1, this.2.2.2.1⟩)
        have h2 := HN.out
        simp only [List.length_append]; omega
      have hix : ixB X = sealB (vput X.every ++ vput n ++ mksBy X.marks (0, 0, 0)) := by rw [← HN.out]; rfl
      obtain ⟨pre, hpre⟩ : ∃ b, vput X.every ++ vput n ++ mksBy X.marks (0, 0, 0) = b := ⟨_, rfl⟩
      rw [hpre] at hp3 hlt2 hll hix
      have HIX := Lib.hid hix
      obtain ⟨vba, vbc, rfl, hvb⟩ := (hHr.use hp3).shape
      have H3 := Lib.hid hHr.tail
      have HP3 := Lib.hid hp3
      have HS3 := Lib.hid hs3
      have HLT := Lib.hid hlt2
      clear hHr hp3 hs3 hlt2 e hix hpre
      go_wp2_with fail
      refine (seal_any _ pre _ (H3.out.use HP3.out) HLT.out (by omega)).mono ?_
      rintro e w9 ⟨⟨v9, rfl, ho9⟩, hb9⟩
      obtain ⟨P9, hs9, hH9, hp9⟩ := H3.out.newBytes hb9 ho9
      have HP9 := Lib.hid hp9
      have HS9 := Lib.hid (HS3.out.trans hs9)
      have H9 := Lib.hid hH9
      clear ho9 hb9 hs9 hH9 hp9
      go_wp2_with fail
      go_ret
      exact ⟨v9, P9, rfl, HS9.out, by rw [HIX.out]; exact HP9.out, H9.out⟩
end

end Go.Proofs.YtepmblomgmghcaaGreatDoor.Sg

/-! Id -/
namespace Go.Proofs.YtepmblomgmghcaaGreatDoor.Sg
open Go.RowKit Er Go.Maps

/-- The greatest time of batches; none: 0. -/
def stm (l : List Bt) : Int := match l with | [] => 0 | x :: _ => l.foldl (fun t y => max t (tmax y)) (tmax x)
theorem tmax_bd (x : Bt) (h : BtOk x) : -1099511627776 ≤ tmax x ∧ tmax x ≤ 1099511627776 := by
  have hg : ∀ (r : List Rc) (t : Int), (∀ y ∈ r, -1099511627776 ≤ y.t ∧ y.t ≤ 1099511627776) → -1099511627776 ≤ t ∧ t ≤ 1099511627776 → -1099511627776 ≤ tgo t r ∧ tgo t r ≤ 1099511627776 := by
    intro r
    induction r with
    | nil => intro t _ h; exact h
    | cons y r ih =>
      intro t hr ht
      have hy := hr y List.mem_cons_self
      exact ih (max t y.t) (fun z hz => hr z (List.mem_cons_of_mem _ hz)) (by omega)
  have hr : ∀ y ∈ x.r, -1099511627776 ≤ y.t ∧ y.t ≤ 1099511627776 := fun y hy => ⟨(h.rs y hy).1, (h.rs y hy).2.1⟩
  unfold tmax
  split
  · omega
  · rename_i y l hxl
    rw [hxl] at hr
    exact hg _ _ hr (hr y List.mem_cons_self)

section
variable {S : List Nat} {E : Nat → Addr} {B : Nat} {P : Pm} {s : Nat} {G : Sg} {D : Dk} {A Ad F : Mm} {w : World}

set_option maxRecDepth 100000 in
set_option maxHeartbeats 1000000 in
theorem stime_ok (hG : SgM s G A) (hW : SgW G) (hH : Hp w P (A ++ F)) :
    Calls Tryz.prog 113 #[ptr s] w fun e w' => e = .returned (.int .i64 (stm G.l)) ∧ Hp w' P (A ++ F) := by
  by_cases h0 : G.l = []
  · have hG2 := hG
    obtain ⟨lv, Al, rfl, hr⟩ := hG2
    obtain ⟨a, c, rfl⟩ := hr.shape
    have c4 : w.cell? ⟨s, 4, none⟩ = some (.slice a G.l.length c) := hH.cell (b := s) (c := sgCells G _) (t := 118) (fr := (0, 0)) (by simp) rfl
    rw [h0] at c4
    have hst : stm G.l = 0 := by rw [h0]; rfl
    rw [hst]
    have H0 := Lib.hid hH
    clear hH hr hG h0 hW
    go_enter Tryz.func113, Tryz.ntmps113
    go_wp2_with fail
    go_ret
    exact ⟨rfl, H0.out⟩
  · obtain ⟨g, c, hc, hpl⟩ := hG.places h0
    obtain ⟨n, hn⟩ : ∃ n, G.l.length = n := ⟨_, rfl⟩
    obtain ⟨x0, r0, hl0⟩ : ∃ x r, G.l = x :: r := by
      cases h : G.l with
      | nil => exact absurd h h0
      | cons x r => exact ⟨x, r, rfl⟩
    have hn1 : 0 < n := by rw [← hn, hl0]; simp
    have hnl := hW.len
    obtain ⟨d4, hpc⟩ := hpl w P _ hH
    have q5 := hpc 0 (by rw [hn]; exact hn1) 5 _ rfl
    have e0 : G.l[0]'(by rw [hn]; exact hn1) = x0 := by simp [hl0]
    rw [e0, Nat.zero_mul, Nat.zero_add] at q5
    obtain ⟨t0, ht0⟩ : ∃ t, tmax x0 = t := ⟨_, rfl⟩
    have hst : stm G.l = G.l.foldl (fun t y => max t (tmax y)) t0 := by unfold stm; rw [hl0]; dsimp only; rw [ht0]
    rw [hst]
    rw [ht0] at q5
    rw [hn] at hc d4 hnl
    have H0 := Lib.hid hH
    have HN := Lib.hid hn
    have HP := Lib.hid hpl
    have HW := Lib.hid hW
    clear hH hn hpl hpc hl0 ht0 hst h0 e0 hW
    go_enter Tryz.func113, Tryz.ntmps113
    go_wp2_with fail
    go_loopg [3, 24] n (fun m vt vi wr => ∃ k : Nat, k + m = n ∧ vi = .int .i64 k ∧ vt = .int .i64 ((G.l.take k).foldl (fun t y => max t (tmax y)) t0) ∧ Hp wr P (A ++ F))
    case atStart => exact ⟨0, by omega, rfl, rfl, H0.out⟩
    case round =>
      obtain ⟨k, hk, rfl, rfl, hHr⟩ := hrel
      by_cases hlt : k < n
      · obtain ⟨gj, rfl⟩ : ∃ x, gk = x + 1 := ⟨gk - 1, by omega⟩
        have hkl : k < G.l.length := by rw [HN.out]; exact hlt
        obtain ⟨x, hx⟩ : ∃ x, G.l[k] = x := ⟨_, rfl⟩
        obtain ⟨-, hpc⟩ := HP.out wr P _ hHr
        have hpc := hpc k hkl
        obtain ⟨p, hp⟩ : ∃ p, sizes (G.l.take k) = p := ⟨_, rfl⟩
        rw [hx, hp] at hpc
        have q0 := hpc 0 _ rfl
        have q1 := hpc 1 _ rfl
        have q2 := hpc 2 _ rfl
        have q3 := hpc 3 _ rfl
        have q4 := hpc 4 _ rfl
        have q5 := hpc 5 _ rfl
        rw [Nat.add_zero] at q0
        obtain ⟨tk, htk⟩ : ∃ t, (G.l.take k).foldl (fun t y => max t (tmax y)) t0 = t := ⟨_, rfl⟩
        have htn : (G.l.take (k + 1)).foldl (fun t y => max t (tmax y)) t0 = max tk (tmax x) := by rw [take_next _ k hkl, List.foldl_append, htk, hx]; rfl
        rw [htk]
        have j2 : (k : Int) < (n : Int) := by omega
        have j3 : (0 : Int) ≤ (k : Int) := by omega
        have HTN := Lib.hid htn
        have HHR := Lib.hid hHr
        clear htn htk hHr hpc hx hp
        go_wp2_with fail
        go_roundg gj
        case measure => omega
        case rel => exact ⟨k + 1, by omega, by simp, by rw [HTN.out], (HHR.out.alloc _).tail⟩
      · have hkn : k = n := by omega
        have e : G.l.take k = G.l := by rw [hkn, ← HN.out]; exact List.take_length
        rw [e]
        have HHR := Lib.hid hHr
        clear hHr e
        go_wp2_with fail
        go_ret
        exact ⟨rfl, HHR.out⟩
end

end Go.Proofs.YtepmblomgmghcaaGreatDoor.Sg

/-! Ie -/
namespace Go.Proofs.YtepmblomgmghcaaGreatDoor.Sg
open Go.RowKit Er Go.Maps

def ix0 (every : Nat) : Ix := ⟨every, [], [], -9223372036854775808⟩
def ixS (every : Nat) (l : List Bt) : Ix × Nat := l.foldl (fun s x => (s.1.add x.b (tmax x) s.2, s.2 + szB x)) (ix0 every, 0)
/-- The index of batches, one behind the other. -/
def ixF (every : Nat) (l : List Bt) : Ix := (ixS every l).1
theorem ixS_snoc (every : Nat) (l : List Bt) (x : Bt) : ixS every (l ++ [x]) = ((ixS every l).1.add x.b (tmax x) (ixS every l).2, (ixS every l).2 + szB x) := by unfold ixS; rw [List.foldl_append]; rfl
theorem ixS_pos (every : Nat) (l : List Bt) : ∀ k, k ≤ l.length → (ixS every (l.take k)).2 = sizes (l.take k)
  | 0, _ => by simp [ixS, sizes]
  | k + 1, h => by
    rw [take_next l k (by omega), ixS_snoc, sizes_app]
    show _ + _ = _
    rw [ixS_pos every l k (by omega)]; simp [sizes]
theorem ixF_step (every : Nat) (l : List Bt) (k : Nat) (h : k < l.length) : ixF every (l.take (k + 1)) = (ixF every (l.take k)).add l[k].b (tmax l[k]) (sizes (l.take k)) := by
  unfold ixF
  rw [take_next l k h, ixS_snoc, ixS_pos every l k (by omega)]

structure IxInv (every : Nat) (l : List Bt) (X : Ix) : Prop where
  ev : X.every = every
  la : X.adds.length = l.length
  lm : X.marks.length ≤ l.length
  tm : X.tm ≤ 1099511627776
  mk' : ∀ m, m ∈ X.marks → 0 ≤ m.1 ∧ m.1 ≤ 1099511627776 ∧ -1099511627776 ≤ m.2.1 ∧ m.2.1 ≤ 1099511627776 ∧ m.2.2 ≤ sizes l
  fa : ∀ a q, X.adds = a ++ [q] → ∃ m y, l = m ++ [y] ∧ q = (y.b, sizes m)
theorem ixF_inv (every : Nat) (l : List Bt) (hok : ∀ x, x ∈ l → BtOk x) : ∀ k, k ≤ l.length → IxInv every (l.take k) (ixF every (l.take k))
  | 0, _ => ⟨rfl, rfl, by simp [ixF, ixS, ix0], by simp [ixF, ixS, ix0], fun m h => by simp [ixF, ixS, ix0] at h, fun a q h => by simp [ixF, ixS, ix0] at h⟩
  | k + 1, h => by
    have ih := ixF_inv every l hok k (by omega)
    have hk : k < l.length := by omega
    have hx := hok _ (List.getElem_mem hk)
    have hl : (l.take k).length = k := by rw [List.length_take, Nat.min_eq_left (by omega)]
    have hl' : (l.take (k + 1)).length = k + 1 := by rw [List.length_take, Nat.min_eq_left (by omega)]
    obtain ⟨t1, t2⟩ := tmax_bd _ hx
    have hb0 := hx.b0
    have hb1 := hx.b1
    have hsz : sizes (l.take (k + 1)) = sizes (l.take k) + szB l[k] := by rw [take_next l k hk, sizes_app]; simp [sizes]
    have htm := ih.tm
    rw [ixF_step every l k hk]
    generalize hp : sizes (l.take k) = p at *
    refine ⟨ih.ev, ?_, ?_, ?_, ?_, ?_⟩
    · show (_ ++ [_]).length = _
      rw [List.length_append, ih.la, hl, hl']; rfl
    · have h1 := ih.lm
      rw [hl] at h1
      rw [hl']
      show (if _ then _ else _ : List _).length ≤ _
      split
      · rw [List.length_append, List.length_singleton]; omega
      · omega
    · show max _ _ ≤ _; omega
    · intro m hm
      rw [hsz]
      have old : m ∈ (ixF every (l.take k)).marks → 0 ≤ m.1 ∧ m.1 ≤ 1099511627776 ∧ -1099511627776 ≤ m.2.1 ∧ m.2.1 ≤ 1099511627776 ∧ m.2.2 ≤ p + szB l[k] := fun hm => by
        have := ih.mk' m hm; omega
      have hm' : m ∈ (if (ixF every (l.take k)).more p then (ixF every (l.take k)).marks ++ [(l[k].b, max (ixF every (l.take k)).tm (tmax l[k]), p)] else (ixF every (l.take k)).marks) := hm
      split at hm'
      · rcases List.mem_append.1 hm' with h1 | h1
        · exact old h1
        · rw [List.mem_singleton.1 h1]
          dsimp only
          omega
      · exact old hm'
    · intro a q ha
      have ha' : (ixF every (l.take k)).adds ++ [(l[k].b, p)] = a ++ [q] := ha
      have e := List.append_inj_right' ha' rfl
      refine ⟨l.take k, l[k], take_next l k hk, ?_⟩
      rw [hp]
      simpa using e.symm
theorem chain_last {b e : Int} {m : List Bt} {y x : Bt} {r : List Bt} (h : Chain b e (m ++ [y] ++ x :: r)) : x.b = y.b + y.r.length := by
  have := ((chain_app (m ++ [y]) (x :: r) b e).1 h).2.1
  rwa [endOf_snoc] at this
theorem ixF_ok (every : Nat) (l : List Bt) (hok : ∀ x, x ∈ l → BtOk x) {b : Int} (hch : Chain b 0 l) (hs : sizes l ≤ 1073741824) (he : every ≤ 1048576) (hll : l.length ≤ 1000000) (k : Nat) (hk : k < l.length) :
    IxOk (ixF every (l.take k)) l[k].b (tmax l[k]) (sizes (l.take k)) := by
  have ih := ixF_inv every l hok k (by omega)
  have hx := hok _ (List.getElem_mem hk)
  have hl : (l.take k).length = k := by rw [List.length_take, Nat.min_eq_left (by omega)]
  obtain ⟨t1, t2⟩ := tmax_bd _ hx
  have hb0 := hx.b0
  have hb1 := hx.b1
  have hsk := sizes_take l k hk
  have hla := ih.la
  have hlm := ih.lm
  refine ⟨hb0, by omega, t1, t2, by omega, by omega, by omega, ?_, ?_, by rw [ih.ev]; exact he⟩
  · intro a q ha
    obtain ⟨m, y, hm, rfl⟩ := ih.fa a q ha
    have hc := take_split l k hk
    rw [hm] at hc
    rw [← hc] at hch
    have h1 := chain_last hch
    have hy := hok y (by rw [← hc]; simp)
    have := hy.n1
    have := szB_pos y
    refine ⟨by dsimp only; omega, ?_⟩
    rw [hm, sizes_app]
    simp [sizes]; omega
  · intro a q ha
    have := ih.mk' q (by rw [ha]; simp)
    exact this.2.2.2.2
theorem ixF_good (every : Nat) (l : List Bt) (hok : ∀ x, x ∈ l → BtOk x) (hs : sizes l ≤ 1073741824) (he : every ≤ 1048576) (hll : l.length ≤ 1000000) : IxGood (ixF every l) := by
  have ih := ixF_inv every l hok l.length (Nat.le_refl _)
  rw [List.take_length] at ih
  refine ⟨by rw [ih.ev]; exact he, Nat.le_trans ih.lm hll, fun m hm => ?_⟩
  have := ih.mk' m hm
  omega

section
variable {S : List Nat} {E : Nat → Addr} {B : Nat} {P : Pm} {s : Nat} {G : Sg} {D : Dk} {A Ad F : Mm} {w : World}

theorem ix0_M (every b : Nat) : IxM b (ix0 every) [(b, .cells (ixCells every) 192 (0, 0))] := ⟨.slice none 0 0, .slice none 0 0, [], [], rfl, rowM_nil _ _, rowM_nil _ _⟩

set_option maxRecDepth 100000 in
set_option maxHeartbeats 2000000 in
theorem sindex_ok (hG : SgM s G A) (hW : SgW G) (hch : Chain G.base 0 G.l) (h1 : 1 ≤ G.every) (h2 : G.every ≤ 1048576) (hsz : sizes G.l ≤ 1073741824) (hH : Hp w P (A ++ F)) :
    Calls Tryz.prog 114 #[ptr s] w fun e w' => ∃ b P', e = .returned (ptr b) ∧ Sub P P' ∧ IxP P' b (ixF G.every G.l) ∧ Hp w' P' (A ++ F) := by
  have hG2 := hG
  obtain ⟨lv, Al, hA, hr⟩ := hG2
  obtain ⟨la, lc, rfl⟩ := hr.shape
  obtain ⟨n, hn⟩ : ∃ n, G.l.length = n := ⟨_, rfl⟩
  have c3 : ∀ w F, Hp w P (A ++ F) → w.cell? ⟨s, 3, none⟩ = some (.int .i64 G.every) ∧ w.cell? ⟨s, 4, none⟩ = some (.slice la n lc) := fun w F hH => by
    rw [← hn]
    exact ⟨hH.cell (b := s) (c := sgCells G (.slice la G.l.length lc)) (t := 118) (fr := (0, 0)) (by simp [hA]) rfl, hH.cell (b := s) (c := sgCells G (.slice la G.l.length lc)) (t := 118) (fr := (0, 0)) (by simp [hA]) rfl⟩
  have hnl := hW.len
  rw [hn] at hnl
  obtain ⟨d3, d4⟩ := c3 w F hH
  have HC3 := Lib.hid c3
  have H0 := Lib.hid hH
  have HN := Lib.hid hn
  have HG := Lib.hid hG
  have HW := Lib.hid hW
  have HCH := Lib.hid hch
  have HSZ := Lib.hid hsz
  clear hH hn hG hW hch hsz c3 hr hA
  go_enter Tryz.func114, Tryz.ntmps114
  go_wp2_with fail
  refine (ixnew_ok G.every h1 h2).mono ?_
  rintro e w1 ⟨rfl, rfl⟩
  have hH1 := H0.out.alloc (.cells (ixCells G.every) 192)
  obtain ⟨ib, hib⟩ : ∃ b, w.heap.size = b := ⟨_, rfl⟩
  have hsl : s < w.heap.size := World.block_lt_of_cell? _ _ d3
  rw [hib] at hH1 ⊢
  obtain ⟨-, e4⟩ := HC3.out _ _ (Hp.mid (A := [_]) (B := A) (C := F) hH1)
  have H1 := Lib.hid hH1
  have HIB := Lib.hid hib
  clear hH1 hib d3 d4
  go_wp2_with fail
  go_loopg [22] n (fun m vi wr => ∃ (k : Nat) (Ai : Mm), k + m = n ∧ vi = .int .i64 k ∧ IxM ib (ixF G.every (G.l.take k)) Ai ∧ Hp wr P (Ai ++ (A ++ F)))
  case atStart => exact ⟨0, _, by omega, rfl, ix0_M G.every ib, H1.out⟩
  case round =>
    obtain ⟨k, Ai, hk, rfl, hI, hHr⟩ := hrel
    by_cases hlt : k < n
    · obtain ⟨gj, rfl⟩ : ∃ x, gk = x + 1 := ⟨gk - 1, by omega⟩
      have hkl : k < G.l.length := by rw [HN.out]; exact hlt
      obtain ⟨g, c, hc, hpl⟩ := HG.out.places (fun h => by rw [h] at hkl; simp at hkl)
      have hHm := Hp.mid (A := Ai) (B := A) (C := F) hHr
      obtain ⟨-, e5⟩ := HC3.out wr _ hHm
      obtain ⟨e6, hpc⟩ := hpl wr P _ hHm
      rw [HN.out] at hc e6
      rw [e6] at e5
      cases e5
      have hok := ixF_ok G.every G.l HW.out.ok HCH.out HSZ.out h2 HW.out.len k hkl
      have hst := ixF_step G.every G.l k hkl
      have hpc := hpc k hkl
      have hsk := sizes_take G.l k hkl
      have hszp := szB_pos G.l[k]
      obtain ⟨x, hx⟩ : ∃ x, G.l[k] = x := ⟨_, rfl⟩
      obtain ⟨p, hp⟩ : ∃ p, sizes (G.l.take k) = p := ⟨_, rfl⟩
      rw [hx, hp] at hpc hok hst hsk
      rw [hx] at hszp
      have q0 := hpc 0 _ rfl
      have q1 := hpc 1 _ rfl
      have q2 := hpc 2 _ rfl
      have q3 := hpc 3 _ rfl
      have q4 := hpc 4 _ rfl
      have q5 := hpc 5 _ rfl
      rw [Nat.add_zero] at q0
      obtain ⟨sx, hsx⟩ : ∃ t, szB x = t := ⟨_, rfl⟩
      rw [hsx] at q3 hsk hszp
      have j2 : (k : Int) < (n : Int) := by omega
      have j3 : (0 : Int) ≤ (k : Int) := by omega
      have HOK := Lib.hid hok
      have HST := Lib.hid hst
      have HHR := Lib.hid hHr
      have HI := Lib.hid hI
      have HSK := Lib.hid (Nat.le_trans hsk HSZ.out)
      clear hHr hHm hI hpc hpl hok hst hx hp hsx hsk e6
      go_wp2_with fail
      refine (iadd_ok HI.out x.b (tmax x) p sx HOK.out hszp (by have := HSK.out; omega) (HHR.out.alloc _).tail).mono ?_
      rintro e w3 ⟨rfl, A3, hI3, hH3⟩
      have H3 := Lib.hid hH3
      have HI3 := Lib.hid hI3
      clear hH3 hI3
      go_wp2_with fail
      go_roundg gj
      case measure => omega
      case rel => exact ⟨k + 1, A3, by omega, by simp, by rw [HST.out]; exact HI3.out, H3.out⟩
    · have hkn : k = n := by omega
      have e : G.l.take k = G.l := by rw [hkn, ← HN.out]; exact List.take_length
      rw [e] at hI
      obtain ⟨P', hs, hH', hI'⟩ := hI.seal hHr
      have H' := Lib.hid hH'
      have HS := Lib.hid hs
      have HI := Lib.hid hI'
      clear hI hHr hs hH' hI' e
      go_wp2_with fail
      go_ret
      exact ⟨ib, P', rfl, HS.out, HI.out, H'.out⟩
end

end Go.Proofs.YtepmblomgmghcaaGreatDoor.Sg

/-! Rt -/
namespace Go.Proofs.YtepmblomgmghcaaGreatDoor.Sg
open Go.RowKit Er Go.Maps

theorem tmax_nil (b e : Int) : tmax ⟨b, e, []⟩ = 0 := by simp [tmax]
theorem tmax_one (b e : Int) (y : Rc) : tmax ⟨b, e, [y]⟩ = y.t := by simp [tmax]
theorem tmax_snoc (b e : Int) (l : List Rc) (y : Rc) (h : l ≠ []) : tmax ⟨b, e, l ++ [y]⟩ = max (tmax ⟨b, e, l⟩) y.t := by
  cases l with
  | nil => exact absurd rfl h
  | cons z l =>
    have : tmax ⟨b, e, z :: l ++ [y]⟩ = tgo z.t (l ++ [y]) := by simp [tmax, tgo]
    rw [this, tgo_snoc]
    simp [tmax, tgo]

set_option maxRecDepth 100000 in
set_option maxHeartbeats 1000000 in
theorem rtime_any (x : Bt) (hn : x.r.length ≤ 1099511627776) (v : Value) (w : World) (h : BtV w v x) :
    Calls Tryz.prog 50 #[v] w fun e w' => e = .returned (.int .i64 (tmax x)) ∧ Below w.heap.size w w' := by
  obtain ⟨rs, rfl, h⟩ := h
  obtain ⟨va, vc, rfl⟩ := h.shape
  have ha := (h.below ((Below.refl _ _).alloc (Nat.le_refl _) (.cells #[.int .i64 x.b, .int .i64 x.e, .slice va x.r.length vc] 38)) rfl)
  have HA := Lib.hid ha
  clear ha h
  go_enter Tryz.func50, Tryz.ntmps50
  go_wp2_with fail
  go_loopg [3, 4] x.r.length (fun r q i wr => ∃ k : Nat, k + r = x.r.length ∧ i = .int .i64 k ∧ q = .int .i64 (tmax ⟨x.b, x.e, x.r.take k⟩) ∧ Below (w.heap.size + 1) (w.alloc (.cells #[.int .i64 x.b, .int .i64 x.e, .slice va x.r.length vc] 38)) wr)
  case atStart => exact ⟨0, by omega, rfl, by rw [List.take_zero, tmax_nil], Below.refl _ _⟩
  case round =>
    obtain ⟨k, hk, rfl, rfl, hb⟩ := hrel
    have hbs := hb.size
    by_cases hlt : k < x.r.length
    · obtain ⟨g', off', cap', hv, hg', hat'⟩ := (HA.out.below hb (by simp)).at_ hlt
      obtain ⟨ka, kc, va', vc', c0, c1, -, c2, -⟩ := hat'.get
      clear hat'
      cases hv
      obtain ⟨y, hy⟩ : ∃ y, x.r[k] = y := ⟨_, rfl⟩
      rw [hy] at c0
      have hz : (wr.cell? ⟨w.heap.size, 2, none⟩) = some (.slice (some ⟨g', off', none⟩) x.r.length vc) := (hb.cell (p := ⟨w.heap.size, 2, none⟩) (Nat.lt_succ_self _)).trans (by simp)
      have htk : x.r.take (k + 1) = x.r.take k ++ [y] := by rw [List.take_add_one, List.getElem?_eq_getElem hlt, hy]; rfl
      obtain ⟨q, hq⟩ : ∃ q, tmax ⟨x.b, x.e, x.r.take k⟩ = q := ⟨_, rfl⟩
      have hnext : tmax ⟨x.b, x.e, x.r.take (k + 1)⟩ = if k = 0 then y.t else max q y.t := by
        rw [htk]
        split
        · rename_i h; subst h; rw [List.take_zero, List.nil_append, tmax_one]
        · rename_i h
          rw [tmax_snoc _ _ _ _ (by intro e; have := congrArg List.length e; rw [List.length_take, Nat.min_eq_left (by omega)] at this; exact h this), hq]
      rw [hq]
      have HN := Lib.hid hnext
      have HQ := Lib.hid hq
      have HY := Lib.hid hy
      clear hnext hq htk hy
      obtain ⟨gk, rfl⟩ : ∃ x, gk = x + 1 := ⟨gk - 1, by omega⟩
      have j1 : (k : Int) < (x.r.length : Int) := by omega
      by_cases hk0 : k = 0
      · subst hk0
        rw [Nat.zero_mul, Nat.add_zero] at c0
        have HN0 : Hid (tmax ⟨x.b, x.e, x.r.take (0 + 1)⟩ = y.t) := HN.out.trans (if_pos rfl)
        go_wp2_with fail
        go_roundg gk
        case measure => omega
        case rel => exact ⟨0 + 1, by omega, by go_num, by rw [HN0.out], hb⟩
      · have j2 : ((k : Int) == 0) = false := beq_eq_false_iff_ne.2 (by omega)
        have j3 : ¬ (k : Int) = 0 := by omega
        have HN0 : Hid (tmax ⟨x.b, x.e, x.r.take (k + 1)⟩ = max q y.t) := HN.out.trans (if_neg hk0)
        by_cases hq2 : q < y.t
        · go_wp2_with fail
          go_roundg gk
          case measure => omega
          case rel => exact ⟨k + 1, by omega, by go_num, by rw [HN0.out, Int.max_eq_right (by omega)], hb⟩
        · have hq3 : y.t ≤ q := by omega
          go_wp2_with fail
          go_roundg gk
          case measure => omega
          case rel => exact ⟨k + 1, by omega, by go_num, by rw [HN0.out, Int.max_eq_left (by omega)], hb⟩
    · obtain rfl : k = x.r.length := by omega
      have hz : (wr.cell? ⟨w.heap.size, 2, none⟩) = some (.slice va x.r.length vc) := (hb.cell (p := ⟨w.heap.size, 2, none⟩) (Nat.lt_succ_self _)).trans (by simp)
      have j1 : ¬ (x.r.length : Int) < (x.r.length : Int) := by omega
      go_wp2_with fail
      go_ret
      exact ⟨by first | rfl | rw [List.take_length], (((Below.refl _ _).alloc (Nat.le_refl _) _).trans (hb.mono (by omega)))⟩

end Go.Proofs.YtepmblomgmghcaaGreatDoor.Sg

/-! Lq -/
namespace Go.Proofs.YtepmblomgmghcaaGreatDoor.Sg
open Go.RowKit Er Go.Maps

theorem wpList_append_bytes_hp {w : World} {P : Pm} {A F : Mm} {ops : Array Oper} {rest : List Oper} {o : Oper} {a : Act} {Q : Exit → Act → World → Prop} (hgd : o.guard = none) (s x : Operand)
    (ho : o.op = .call { callee := .builtin .append, args := #[s, x], argTypes := #[22, 22] })
    (v : Value) (n : Nat) (xs : List Nat) (hs : a.eval s = v) (hH : Hp w P (A ++ F)) (hr : RowM 5 1 v n (bcells xs) A) (y : Value) (ys : List Nat) (hx : a.eval x = y) (hy : SlB w y ys) (hbd : n + ys.length ≤ 70368744177664)
    (h : ∀ b c w' A', RowM 5 1 (.slice b (n + ys.length) c) (n + ys.length) (bcells (xs ++ ys)) A' → Hp w' P (A' ++ F) → wpList Tryz.prog ops Q rest (a.put o.dst (.slice b (n + ys.length) c)) w') : wpList Tryz.prog ops Q (o :: rest) a w := by
  refine wpList_append_bytes hgd s x ho 0 v n xs hs (hr.owns hH) y ys hx hy hbd (Nat.zero_le _) ?_
  intro v' w' hown hg _ hat
  obtain ⟨A', hr', hH'⟩ := hH.rowGrown hr hg hown (by
    rcases hat with e | e
    · exact .inl e
    · exact .inr ⟨_, e, Nat.le_refl _⟩)
  obtain ⟨b, c, rfl⟩ := hr'.shape
  exact h b c w' A' hr' hH'

theorem ixB_len (X : Ix) (h : IxGood X) : (ixB X).length ≤ 1099511627776 := by
  have h1 := mksBy_len X.marks (0, 0, 0) (by decide) (fun m hm => by have := h.mks m hm; exact ⟨this.2.2.1, this.2.2.2.1⟩)
  have h2 := h.len
  have h3 := vput_len64 X.every (by have := h.ev; omega)
  have h4 := vput_len64 X.marks.length (by omega)
  simp only [ixB, sealB, List.length_append, leB_len]; omega
/-- The greatest time of batches, 0 at least. -/
def tm0 (l : List Bt) : Int := l.foldl (fun t y => max t (tmax y)) 0
theorem tm0_snoc (l : List Bt) (x : Bt) : tm0 (l ++ [x]) = max (tm0 l) (tmax x) := by simp [tm0]
theorem stm_tm0 (l : List Bt) (h : ∀ x ∈ l, 0 ≤ tmax x) : stm l = tm0 l := by
  cases l with
  | nil => rfl
  | cons x l =>
    have := h x List.mem_cons_self
    show (x :: l).foldl _ (tmax x) = (x :: l).foldl _ 0
    simp only [List.foldl_cons]
    rw [show max (tmax x) (tmax x) = max 0 (tmax x) from by omega]
theorem tgo_ge : ∀ (r : List Rc) (t : Int), t ≤ tgo t r
  | [], t => Int.le_refl _
  | y :: r, t => Int.le_trans (by omega) (tgo_ge r (max t y.t))
theorem row_tm (every : Nat) : ∀ (l : List Int) (i : Nat) (a : Int), ∀ x, x ∈ rowGo every l i a → 0 ≤ tmax x
  | [], _, _, x, hx => by cases hx
  | s :: l, i, a, x, hx => by
    rcases List.mem_cons.1 hx with rfl | hx
    · unfold tmax
      split
      · omega
      · rename_i y r hy
        have hm : y ∈ (rBt every s i a).r := by rw [hy]; simp
        obtain ⟨k, -, rfl⟩ := List.mem_map.1 hm
        exact Int.le_trans (by simp [rRec]; omega) (tgo_ge _ _)
    · exact row_tm every l _ _ x hx

section
variable {S : List Nat} {E : Nat → Addr} {B : Nat} {P : Pm} {s : Nat} {G : Sg} {D : Dk} {A Ad F : Mm} {w : World}

set_option maxRecDepth 100000 in
set_option maxHeartbeats 1000000 in
theorem sread_out (C : Ctx S E B P) (hG : SgM s G A) (hW : SgW G) (o most : Int) (ho : o < G.base ∨ G.end_ ≤ o) (hH : Hp w P (A ++ F)) :
    Calls Tryz.prog 60 #[ptr s, .int .i64 o, .int .i64 most] w fun e w' => e = .returned (.tuple #[.slice none 0 0, .iface 306 (.pointer (some (E 14)))]) ∧ Hp w' P (A ++ F) := by
  obtain ⟨lv, -, -, d2, -, -, -, -, -⟩ := hG.cells hH
  have ce : ∀ w, Agr P w → w.cell? ⟨4, 0, none⟩ = some (.iface 306 (.pointer (some (E 14)))) := fun w hw => (C.errs w hw).at_ 14 (C.all 14 (by omega))
  obtain ⟨en, hen⟩ : ∃ en, G.end_ = en := ⟨_, rfl⟩
  rw [hen] at ho
  have H0 := Lib.hid hH
  have HN := Lib.hid hen
  have HCE := Lib.hid ce
  by_cases i1 : o < (G.base : Int)
  · have ce1 := ce _ hH.agr
    clear hH hen ho ce
    go_enter Tryz.func60, Tryz.ntmps60
    go_wp2_with fail
    go_quiet (fail)
    go_wp2_with fail
    go_ret2
    exact ⟨rfl, H0.out.drewN _⟩
  · have i2 : en ≤ o := by omega
    clear hH hen ho ce
    go_enter Tryz.func60, Tryz.ntmps60
    go_wp2_with fail
    refine (end_any hG hW H0.out).mono ?_
    rintro e w1 ⟨rfl, hH1⟩
    rw [HN.out]
    have ce1 := HCE.out _ hH1.agr
    have H1 := Lib.hid hH1
    clear hH1
    go_wp2_with fail
    go_quiet (fail)
    go_wp2_with fail
    go_ret2
    exact ⟨rfl, H1.out.drewN _⟩
end

end Go.Proofs.YtepmblomgmghcaaGreatDoor.Sg

/-! Hr -/
namespace Go.Proofs.YtepmblomgmghcaaGreatDoor.Sg
open Go.RowKit Er Go.Maps

theorem row_rn (every : Nat) : ∀ (l : List Int) (i : Nat) (a : Int), ∀ x, x ∈ rowGo every l i a → x.r.length ≤ 5
  | [], _, _, x, hx => by cases hx
  | s :: l, i, a, x, hx => by
    rcases List.mem_cons.1 hx with rfl | hx
    · rw [rBt_len]; exact (rN_pos s).2
    · exact row_rn every l _ _ x hx
theorem szB_le5 (x : Bt) (h : BtOk x) (hr : x.r.length ≤ 5) : szB x ≤ 3200 := by
  have h0 := batB_len x
  have h1 := bodyR_len (t0 x) x.r (t0_in x h) h.rs
  have h2 := vput_len64 (zig (t0 x)) (by have := t0_in x h; have := zig_lt (t0 x) (by omega) (by omega); omega)
  have h3 : (bodyB x).length ≤ 3100 := by simp [bodyB, headB, leB_len]; omega
  unfold szB; omega
theorem row30 (every : Nat) (xs : List Int) (base : Nat) (hb : base ≤ 1073741824) (hx : xs.length ≤ 30) : Chain base 0 (rowGo every xs 0 base) ∧ (∀ x, x ∈ rowGo every xs 0 base → BtOk x ∧ BtBy x) ∧ sizes (rowGo every xs 0 base) ≤ 96000 := by
  have hok := row_ok every xs 0 base (by omega) (by omega) (by omega)
  refine ⟨row_chain every xs 0 base 0 (by have := (rEp_mono every 0).2; omega), hok, ?_⟩
  have h : ∀ L : List Bt, (∀ x, x ∈ L → szB x ≤ 3200) → sizes L ≤ L.length * 3200 := by
    intro L
    induction L with
    | nil => intro _; simp [sizes]
    | cons x L ih =>
      intro h
      have h1 := h x List.mem_cons_self
      have h2 := ih (fun y hy => h y (List.mem_cons_of_mem _ hy))
      simp only [sizes, List.map_cons, List.sum_cons, List.length_cons] at h2 ⊢
      omega
  have h1 := h _ (fun x hx => szB_le5 x (hok x hx).1 (row_rn every xs 0 base x hx))
  rw [row_len] at h1
  omega

theorem row_m {P : Pm} {F : Mm} {w : World} (hH : Hp w P F) (a : Option Addr) (xs : List Int) (c n : Nat) (hn : xs.length = n) (hr : Pers P (fun w => IntsR w a xs)) (every : Nat) (he : every ≤ 1000000) (hx : n ≤ 1000000) (base : Int) (h0 : 0 ≤ base) (h1 : base ≤ 1099511627776) :
    Calls Tryz.prog 29 #[.int .i64 base, .slice a n c, .int .i64 every] w fun e w' => ∃ v P' out, e = .returned v ∧ Sub P P' ∧ out.map (·.1) = rowGo every xs 0 base ∧ BtsP P' v out ∧ Hp w' P' F := by
  subst hn
  exact row_p hH a xs c hr every he hx base h0 h1

/-- Two triples alike are equal. -/
theorem eqTri (u0 u1 u2 : Int) (w : World) : Sem.run Tryz.prog (Op.equalIn 10000 61 (.agg #[.int .i64 u0, .int .i64 u1, .int .i64 u2]) (.agg #[.int .i64 u0, .int .i64 u1, .int .i64 u2])) w = .ok true w := by
  obtain ⟨i, hi⟩ := info_of_underlying Tryz.underlying2
  have h := run_equalIn_array (P := Tryz.prog) w 9999 (t := 61) #[.int .i64 u0, .int .i64 u1, .int .i64 u2] #[.int .i64 u0, .int .i64 u1, .int .i64 u2] (n := 3) (e := 2) Tryz.underlying61 hi
  have hc : Tryz.prog.cellsOf 2 = 1 := by kernel_rfl
  rw [h, hc, show List.range 3 = [0, 1, 2] from rfl]
  simp [Op.eqItems, part, go_sem]

/-- Triples of lists of batches one behind the other. -/
def triL : Int → List (List Bt) → List Tri
  | _, [] => []
  | b, m :: ms => (b, endOf b m, sizes m) :: triL (endOf b m) ms
theorem triL_snoc : ∀ (ms : List (List Bt)) (b : Int) (m : List Bt), triL b (ms ++ [m]) = triL b ms ++ [(endOf b ms.flatten, endOf b (ms ++ [m]).flatten, sizes m)]
  | [], b, m => by simp [triL, endOf]
  | x :: ms, b, m => by
    show (b, endOf b x, sizes x) :: triL (endOf b x) (ms ++ [m]) = _
    rw [triL_snoc ms]
    simp only [List.flatten_cons, List.cons_append, endOf_app, triL, List.flatten_append]
theorem triL_len : ∀ (ms : List (List Bt)) (b : Int), (triL b ms).length = ms.length
  | [], _ => rfl
  | m :: ms, b => by simp [triL, triL_len ms]
theorem lk_tri : ∀ (L : List (Nat × Sg)) (b : Int), Lk b (L.map (·.2)) → L.map (fun p => triG p.2) = triL b (L.map (·.2.l))
  | [], _, _ => rfl
  | p :: L, b, ⟨h1, _, h3⟩ => by
    have := lk_tri L _ h3
    rw [List.map_cons, List.map_cons, this]
    show (triG p.2 :: triL p.2.end_ (L.map (·.2.l))) = (b, endOf b p.2.l, sizes p.2.l) :: triL (endOf b p.2.l) (L.map (·.2.l))
    rw [← h1, ← end_eq]; rfl

section
variable {S : List Nat} {E : Nat → Addr} {B : Nat} {P : Pm} {h : Nat} {H : Hl} {D : Dk} {A Ad F : Mm} {w : World} {b0 : Int} {l : List Bt}

/-- Where one stands behind so many segments: at the end, or ahead of a segment that has batches. -/
theorem HotOn.upto (hO : HotOn D H b0 l) (k : Nat) (hk : k ≤ H.L.length) :
    (endOf b0 ((H.L.take k).map (·.2.l)).flatten = endOf b0 l ∧ ((H.L.take k).map (·.2.l)).flatten = l) ∨
    ∃ (hk : k < H.L.length), endOf b0 ((H.L.take k).map (·.2.l)).flatten < endOf b0 l ∧ ((H.L[k]).2.base : Int) = endOf b0 ((H.L.take k).map (·.2.l)).flatten ∧ (H.L[k]).2.l ≠ [] := by
  by_cases hkn : k < H.L.length
  · have hsp : H.L = H.L.take k ++ ((H.L[k]).1, (H.L[k]).2) :: H.L.drop (k + 1) := HlM.nth k hkn
    obtain ⟨h1, h2, h3, h4, h5⟩ := hO.split hsp
    by_cases he : (H.L[k]).2.l = []
    · left
      have hd : H.L.drop (k + 1) = [] := Classical.byContradiction fun hd => by
        have hk2 := hO.lk
        rw [hsp, List.map_append, List.map_cons] at hk2
        exact (hk2.app.2.1 (by simpa using hd)).1 he
      rw [hd, he] at h5
      have h6 : ((H.L.take k).map (·.2.l)).flatten = l := by rw [h5]; simp
      exact ⟨by rw [h6], h6⟩
    · right
      refine ⟨hkn, ?_, h2, he⟩
      have hr : ∀ x, x ∈ ((H.L.drop (k + 1)).map (·.2.l)).flatten → 1 ≤ x.r.length := fun x hx => (hO.ok x (by rw [h5]; simp only [List.mem_append]; exact .inr (.inr hx))).1.n1
      have hg := chain_ge _ _ _ h4 hr
      have hs := hO.segend (p := ((H.L[k]).1, (H.L[k]).2)) (show H.L[k] ∈ H.L from List.getElem_mem hkn)
      have hl : 0 < (H.L[k]).2.l.length := List.length_pos_iff.2 he
      have e1 : endOf b0 l = endOf (H.L[k]).2.end_ ((H.L.drop (k + 1)).map (·.2.l)).flatten := by
        conv => lhs; rw [h5, endOf_app, endOf_app, ← h2, ← end_eq]
      rw [e1, ← h2]
      dsimp only at hs
      omega
  · left
    have e : H.L.take k = H.L := List.take_of_length_le (by omega)
    rw [e, hO.fl]
    exact ⟨rfl, rfl⟩
theorem perm_t (A B C E : Mm) : List.Perm (A ++ (B ++ (C ++ E))) (C ++ (A ++ (B ++ E))) := by
  have := perm_mid (A ++ B) C E
  simpa [List.append_assoc] using this

/-- What holds at the head of all's loop. -/
def All10Rel (P : Pm) (F A Ad : Mm) (H : Hl) (b0 : Int) (m : Nat) (vo va : Value) (w : World) : Prop :=
  ∃ (k : Nat) (P' : Pm) (out : List (Bt × Value)) (Ao : Mm), k + m = H.L.length ∧ va = .int .i64 (endOf b0 ((H.L.take k).map (·.2.l)).flatten) ∧ Sub P P' ∧ BtsM P' vo ((H.L.take k).map (·.2.l)).flatten out Ao ∧ Hp w P' (A ++ (Ad ++ (Ao ++ F)))

set_option maxRecDepth 100000 in
set_option maxHeartbeats 2000000 in
theorem all10_ok (C : Ctx S E B P) (hM : HlM h H A) (hO : HotOn D H b0 l) (hne : H.L ≠ []) (hD : DkM P H.d D Ad) (hsz : sizes l ≤ 1048576) (hll : l.length ≤ 1000) (hH : Hp w P (A ++ (Ad ++ F))) :
    Calls Tryz.prog 43 #[ptr h] w fun e w' => ∃ v out P', e = .returned (.tuple #[v, .bool true]) ∧ Sub P P' ∧ out.map (·.1) = l ∧ BtsP P' v out ∧ Hp w' P' (A ++ (Ad ++ F)) := by
  have hst := hO.hstart hne
  have hen := hO.hend hne
  have HST := Lib.hid hst
  have HEN := Lib.hid hen
  have HM := Lib.hid hM
  have HO := Lib.hid hO
  have HD := Lib.hid hD
  have H0 := Lib.hid hH
  have HSZ := Lib.hid hsz
  clear hst hen hM hO hD hH hsz hne
  obtain ⟨en, hen2⟩ : ∃ en, endOf b0 l = en := ⟨_, rfl⟩
  go_enter Tryz.func43, Tryz.ntmps43
  go_wp2_with fail
  refine (hstart_ok HM.out HO.out.W H0.out).mono ?_
  rintro e w1 ⟨rfl, hH1⟩
  rw [HST.out]
  have H1 := Lib.hid hH1
  clear hH1
  go_wp2_with fail
  go_loopg [4, 5] H.L.length (fun m vo va wr => All10Rel P F A Ad H b0 m vo va wr)
  case atStart => exact ⟨0, P, [], [], by omega, rfl, Sub.refl _, BtsM.nil P, H1.out⟩
  case round =>
    obtain ⟨k, P1, out, Ao, hk, rfl, hs1, hB, hHr⟩ := hrel
    obtain ⟨va, vc, rfl⟩ := hB.row.shape
    rcases HO.out.upto k (by omega) with ⟨heq, hfl⟩ | ⟨hkn, hlt, hbase, hgl⟩
    · rw [heq]
      have HR := Lib.hid hHr
      have HB := Lib.hid hB
      have HS1 := Lib.hid hs1
      have HFL := Lib.hid hfl
      rw [hen2]
      rw [hfl]
      clear hHr hB hs1 hfl heq
      go_wp2_with fail
      refine (hend_ok HM.out HO.out.W HR.out).mono ?_
      rintro e w2 ⟨rfl, hH2⟩
      rw [HEN.out, hen2]
      have H2 := Lib.hid hH2
      clear hH2
      go_wp2_with fail
      go_ret2
      obtain ⟨P2, hs2, hb2, hH3⟩ := HB.out.seal (H2.out.perm (perm_t A Ad Ao F))
      have hmm := HB.out.map.trans HFL.out
      rw [HFL.out] at hb2
      exact ⟨.slice va l.length vc, out, P2, rfl, HS1.out.trans hs2, hmm, hb2, hH3⟩
    · obtain ⟨gj, rfl⟩ : ∃ x, gk = x + 1 := ⟨gk - 1, by omega⟩
      rw [hen2] at hlt
      have hsp : H.L = H.L.take k ++ ((H.L[k]).1, (H.L[k]).2) :: H.L.drop (k + 1) := HlM.nth k hkn
      have hch := HO.out.chain hsp
      have hgm : ((H.L[k]).1, (H.L[k]).2) ∈ H.L := (show H.L[k] ∈ H.L from List.getElem_mem hkn)
      have hse := HO.out.segend hgm
      have hsg := sum_sub H.L _ hgm
      rw [HO.out.fl] at hsg
      have hokG := (HO.out.sg _ hgm).1.ok
      have hbyG := (HO.out.sg _ hgm).1.by_
      have htk : ((H.L.take (k + 1)).map (·.2.l)).flatten = ((H.L.take k).map (·.2.l)).flatten ++ (H.L[k]).2.l := by rw [take_next H.L k hkn]; simp only [List.map_append, List.map_cons, List.map_nil, List.flatten_append, List.flatten_cons, List.flatten_nil, List.append_nil]
      have hlen2 : ((H.L.take k).map (·.2.l)).flatten.length + (H.L[k]).2.l.length ≤ 1000 := by
        have h5 := (HO.out.split hsp).2.2.2.2
        have := congrArg List.length h5
        simp only [List.length_append] at this
        omega
      obtain ⟨s, hs⟩ : ∃ s, (H.L[k]).1 = s := ⟨_, rfl⟩
      obtain ⟨G, hG⟩ : ∃ G, (H.L[k]).2 = G := ⟨_, rfl⟩
      rw [hG] at hgl hbase hch hse hsg hokG hbyG htk hlen2
      rw [hs, hG] at hsp
      try dsimp only at hse hsg hokG hbyG
      obtain ⟨g0, x, hgx⟩ : ∃ g0 x, G.l = g0 ++ [x] := by
        rcases snoc_cases G.l with h0 | h0
        · exact absurd h0 hgl
        · exact h0
      have hxo : BtOk x := hokG x (by rw [hgx]; simp)
      have hend2 : endOf b0 ((H.L.take (k + 1)).map (·.2.l)).flatten = x.b + x.r.length := by rw [htk, hgx, ← List.append_assoc, endOf_snoc]
      have hgl1 : 0 < G.l.length := List.length_pos_iff.2 hgl
      have hall : rdGo G.base 1048576 G.l [] 0 = G.l := rdGo_all G.base 1048576 G.l [] 0 _ _ hch (Int.le_refl _) (fun y hy => (hokG y hy).n1) (by have := HSZ.out; omega)
      obtain ⟨P0, hP0⟩ : ∃ z, ((H.L.take k).map (·.2.l)).flatten = z := ⟨_, rfl⟩
      rw [hP0] at hlt hB hbase htk hlen2
      rw [← hbase] at hlt
      rw [hP0, ← hbase]
      have hss : G.base < G.end_ := by omega
      have HR := Lib.hid (hHr)
      have HB := Lib.hid hB
      have HS1 := Lib.hid hs1
      have HALL := Lib.hid hall
      have HSP := Lib.hid hsp
      have HTK := Lib.hid htk
      have HGX := Lib.hid hgx
      have HE2 := Lib.hid hend2
      have HXO := Lib.hid hxo
      have HLE := Lib.hid hlen2
      have HP0 := Lib.hid hP0
      clear hHr hB hs1 hall hsp htk hgx hend2 hxo hlen2 hch hgm hsg hokG hbyG hG hs hbase hP0
      go_wp2_with fail
      refine (hend_ok HM.out HO.out.W HR.out).mono ?_
      rintro e w2 ⟨rfl, hH2⟩
      rw [HEN.out, hen2]
      have H2 := Lib.hid hH2
      clear hH2
      go_wp2_with fail
      refine (hread_seg (C.sub HS1.out) HM.out HO.out (HD.out.sub HS1.out) HSP.out G.base 1048576 (Int.le_refl _) hss (by decide) (by decide) H2.out).mono ?_
      rintro e w3 ⟨v3, out3, P3, rfl, hs3, hm3, hb3, hH3⟩
      rw [HALL.out] at hm3
      obtain ⟨sa, sc, rfl, hsc⟩ := hb3.shape
      have hol : out3.length = G.l.length := by rw [← hm3, List.length_map]
      rw [hol] at hb3 hsc ⊢
      have hj : G.l.length - 1 < out3.length := by omega
      obtain ⟨g, off, cap, hvv, hcap, hbc⟩ := hb3.at_ hj
      have hx3 : (out3[G.l.length - 1]'hj).1 = x := by
        have h1 : (out3.map (·.1))[G.l.length - 1]? = some x := by rw [hm3, HGX.out]; simp
        rw [List.getElem?_map, List.getElem?_eq_getElem hj] at h1
        simpa using h1
      have H3 := Lib.hid (hH3.perm (perm_t A Ad Ao F))
      have HB3 := Lib.hid hb3
      have HS3 := Lib.hid hs3
      have HBC := Lib.hid hbc
      have HM3 := Lib.hid hm3
      have HX3 := Lib.hid hx3
      have HOL := Lib.hid hol
      have hne3 : (G.l.length : Int) ≠ 0 := by omega
      simp only [hol] at hvv
      simp only [Value.slice.injEq] at hvv
      obtain ⟨rfl, -, rfl⟩ := hvv
      obtain ⟨n3, hn3⟩ : ∃ n, G.l.length = n + 1 := ⟨G.l.length - 1, by omega⟩
      rw [hn3] at HB3 HOL hsc ⊢
      have HN3 := Lib.hid hn3
      have hnb : n3 ≤ 1000 := by have := HLE.out; omega
      clear hH3 hs3 hb3 hbc hm3 hx3 hne3 hol
      go_wp2_with (at_builtin; refine wpList_app_bts rfl _ _ rfl (.slice va P0.length vc) P0 out rfl (HB.out.sub HS3.out) (.slice (some ⟨g, off, none⟩) (n3 + 1) sc) out3 rfl HB3.out H3.out (by have := HLE.out; rw [HOL.out]; omega) ?_)
      intro v4 w4 A4 hbm4 hH4
      obtain ⟨ya, yc, rfl⟩ := hbm4.row.shape
      obtain ⟨-, c0, c1, c2, hrc⟩ := hH4.use HBC.out
      have hbv : BtV w4 (.agg #[.int .i64 x.b, .int .i64 x.e, (out3[G.l.length - 1]'hj).2]) x := ⟨_, rfl, by have := hrc; rwa [HX3.out] at this⟩
      rw [HX3.out] at c0 c1
      obtain ⟨p2, hp2⟩ : ∃ p2, (out3[G.l.length - 1]'hj).2 = p2 := ⟨_, rfl⟩
      rw [hp2] at c2 hbv
      rw [HN3.out, show n3 + 1 - 1 = n3 from rfl] at c0 c1 c2
      have H4 := Lib.hid hH4
      have HBM4 := Lib.hid hbm4
      clear hH4 hbm4 hrc hp2
      go_wp2_with fail
      refine (rnext_any x (by have := HXO.out.b0; omega) (by have := HXO.out.b1; omega) (by have := HXO.out.n64; omega) _ _ hbv).mono ?_
      rintro e w5 ⟨rfl, hb5⟩
      have H5 := Lib.hid (H4.out.below hb5 (Nat.le_refl _))
      clear hb5
      go_wp2_with fail
      go_roundg gj
      case measure => omega
      case rel =>
        refine ⟨k + 1, P3, out ++ out3, A4, by omega, by rw [HE2.out], HS1.out.trans HS3.out, ?_, ?_⟩
        · rw [HTK.out, ← HM3.out]; have := HBM4.out; rwa [List.length_append, List.length_map] at this
        · have := perm_mid A4 (A ++ Ad) F
          exact H5.out.perm (by simpa [List.append_assoc] using this)

theorem joined10_ok {w : World} {v1 v2 : Value} {L : List Bt} (h1 : BtsR w v1 L) (h2 : BtsR w v2 L) (hl : L.length ≤ 1000000000) (hs : ∀ x, x ∈ L → BtSm x) :
    Calls Tryz.prog 44 #[v1, v2] w fun e w' => e = .returned (.bool true) ∧ Below w.heap.size w w' := by
  go_enter Tryz.func44, Tryz.ntmps44
  go_wp2_with fail
  refine (samebatches_ok h1 h2 hl hs).mono ?_
  rintro e w1 ⟨rfl, hb⟩
  have HB := Lib.hid hb
  clear hb
  go_wp2_with fail
  go_ret
  exact ⟨rfl, HB.out⟩
end
end Go.Proofs.YtepmblomgmghcaaGreatDoor.Sg

/-! Ht -/
namespace Go.Proofs.YtepmblomgmghcaaGreatDoor.Sg
open Go.RowKit Er Go.Maps

theorem TriM.gets {P : Pm} {w : World} {Ap F : Mm} {v : Value} {l : List Tri} (hr : TriM v l Ap) (hH : Hp w P (Ap ++ F)) {j : Nat} (hj : j < l.length) : ∃ g c, v = .slice (some ⟨g, 0, none⟩) l.length c ∧ l.length ≤ c ∧ w.cell? ⟨g, j * 3, none⟩ = some (.int .i64 (l[j]).1) ∧ w.cell? ⟨g, j * 3 + 1, none⟩ = some (.int .i64 (l[j]).2.1) ∧ w.cell? ⟨g, j * 3 + 2, none⟩ = some (.int .i64 (l[j]).2.2) := by
  obtain ⟨h1, h2, h3⟩ := triV_at l j l[j] (List.getElem?_eq_getElem hj)
  obtain ⟨g, c, e1, e2, e3⟩ := RowM.cell hr hH h1
  obtain ⟨g', c', e4, e5, e6⟩ := RowM.cell hr hH h2
  obtain ⟨g2, c2, e7, e8, e9⟩ := RowM.cell hr hH h3
  rw [e1] at e4 e7
  cases e4
  cases e7
  exact ⟨g, c, e1, e2, e3, e6, e9⟩

section
variable {S : List Nat} {E : Nat → Addr} {B : Nat} {P : Pm} {h : Nat} {H : Hl} {D : Dk} {A Ad F : Mm} {w : World} {b0 : Int} {l : List Bt}

set_option maxRecDepth 100000 in
set_option maxHeartbeats 1000000 in
theorem hof_ok (hM : HlM h H A) (hW : HlW H) {L1 L2 : List (Nat × Sg)} {s : Nat} {G : Sg} (hL : H.L = L1 ++ (s, G) :: L2) (hpre : ∀ p, p ∈ L1 → p.2.base ≠ G.base) (hH : Hp w P (A ++ F)) :
    Calls Tryz.prog 112 #[ptr h, .int .i64 G.base] w fun e w' => e = .returned (.tuple #[ptr s, .nilIface]) ∧ Hp w' P (A ++ F) := by
  obtain ⟨a, c, hc, hat⟩ := hM.at_
  obtain ⟨-, -, -, c3, -, -, -⟩ := hat w P _ hH
  obtain ⟨n, hn⟩ : ∃ n, H.L.length = n := ⟨_, rfl⟩
  have hnl := hW.n
  rw [hn] at c3 hc hnl
  have hl1 : L1.length < n := by rw [← hn, hL]; simp
  obtain ⟨q, hq⟩ : ∃ q, L1.length = q := ⟨_, rfl⟩
  rw [hq] at hl1
  obtain ⟨o, ho⟩ : ∃ o, (G.base : Int) = o := ⟨_, rfl⟩
  have H0 := Lib.hid hH
  have HN := Lib.hid hn
  have HAT := Lib.hid hat
  have HM := Lib.hid hM
  have HL := Lib.hid hL
  have HQ := Lib.hid hq
  have HPRE := Lib.hid hpre
  have HO := Lib.hid ho
  rw [ho]
  clear hH hn hat hM hW hL hq hpre ho
  go_enter Tryz.func112, Tryz.ntmps112
  go_wp2_with fail
  go_loopg [13] n (fun m vi wr => ∃ k : Nat, k + m = n ∧ k ≤ q ∧ vi = .int .i64 k ∧ Hp wr P (A ++ F))
  case atStart => exact ⟨0, by omega, by omega, rfl, H0.out⟩
  case round =>
    obtain ⟨k, hk2, hkq, rfl, hHr⟩ := hrel
    have hlt : k < n := by omega
    obtain ⟨gj, rfl⟩ : ∃ x, gk = x + 1 := ⟨gk - 1, by omega⟩
    have hkl : k < H.L.length := by rw [HN.out]; exact hlt
    obtain ⟨-, -, -, -, -, -, hcell⟩ := HAT.out wr P _ hHr
    obtain ⟨g, rfl, cg⟩ := hcell k hkl
    obtain ⟨s', hs⟩ : ∃ s, (H.L[k]).1 = s := ⟨_, rfl⟩
    obtain ⟨G', hG⟩ : ∃ G, (H.L[k]).2 = G := ⟨_, rfl⟩
    have hsp := HlM.nth k hkl
    rw [hs, hG] at hsp
    rw [hs] at cg
    obtain ⟨A1, R, hG1, hp, -⟩ := HM.out.focus hsp
    have hH1 : Hp wr P (A1 ++ (R ++ F)) := hHr.perm (hp _)
    have j2 : (k : Int) < (n : Int) := by omega
    have j3 : (0 : Int) ≤ (k : Int) := by omega
    have hx : H.L[k] = (s', G') := Prod.ext hs hG
    by_cases hkk : k < q
    · have hmem : (s', G') ∈ L1 := by
        have h1 : H.L[k] = L1[k]'(by have := HQ.out; omega) := by
          have h2 := HL.out
          simp only [h2]
          exact List.getElem_append_left (by have := HQ.out; omega)
        rw [← hx, h1]
        exact List.getElem_mem _
      have hne : ¬ (G'.base : Int) = o := by
        have := HPRE.out _ hmem
        have h2 := HO.out
        dsimp only at this
        omega
      have HR := Lib.hid hHr
      clear hHr hs hG hsp hcell hp hx hmem
      go_wp2_with fail
      refine (sbase_any hG1 hH1).mono ?_
      rintro e w1 ⟨rfl, rfl⟩
      go_wp2_with fail
      go_roundg gj
      case measure => omega
      case rel => exact ⟨k + 1, by omega, by omega, by simp, HR.out⟩
    · have hkq2 : k = q := by omega
      have hxx : H.L[k] = (s, G) := by
        have h1 : H.L[k]? = some (s, G) := by rw [HL.out, hkq2, ← HQ.out]; simp
        rw [List.getElem?_eq_getElem hkl] at h1
        exact Option.some.inj h1
      rw [hx] at hxx
      cases hxx
      have HR := Lib.hid hHr
      have HB := Lib.hid HO.out
      clear hHr hs hG hsp hcell hp hx hkq2
      go_wp2_with fail
      refine (sbase_any hG1 hH1).mono ?_
      rintro e w1 ⟨rfl, rfl⟩
      rw [HB.out]
      go_wp2_with fail
      go_ret2
      exact ⟨rfl, HR.out⟩

set_option maxRecDepth 100000 in
set_option maxHeartbeats 1000000 in
theorem hof_none (C : Ctx S E B P) (hM : HlM h H A) (hW : HlW H) (o : Int) (hno : ∀ p, p ∈ H.L → (p.2.base : Int) ≠ o) (hH : Hp w P (A ++ F)) :
    Calls Tryz.prog 112 #[ptr h, .int .i64 o] w fun e w' => e = .returned (.tuple #[.pointer none, .iface 306 (.pointer (some (E 6)))]) ∧ Hp w' P (A ++ F) := by
  obtain ⟨a, c, hc, hat⟩ := hM.at_
  obtain ⟨-, -, -, c3, -, -, -⟩ := hat w P _ hH
  obtain ⟨n, hn⟩ : ∃ n, H.L.length = n := ⟨_, rfl⟩
  have hnl := hW.n
  rw [hn] at c3 hc hnl
  have H0 := Lib.hid hH
  have HN := Lib.hid hn
  have HAT := Lib.hid hat
  have HM := Lib.hid hM
  have HNO := Lib.hid hno
  clear hH hn hat hM hW hno
  go_enter Tryz.func112, Tryz.ntmps112
  go_wp2_with fail
  go_loopg [13] n (fun m vi wr => ∃ k : Nat, k + m = n ∧ vi = .int .i64 k ∧ Hp wr P (A ++ F))
  case atStart => exact ⟨0, by omega, rfl, H0.out⟩
  case round =>
    obtain ⟨k, hk2, rfl, hHr⟩ := hrel
    by_cases hlt : k < n
    · obtain ⟨gj, rfl⟩ : ∃ x, gk = x + 1 := ⟨gk - 1, by omega⟩
      have hkl : k < H.L.length := by rw [HN.out]; exact hlt
      obtain ⟨-, -, -, -, -, -, hcell⟩ := HAT.out wr P _ hHr
      obtain ⟨g, rfl, cg⟩ := hcell k hkl
      obtain ⟨s', hs⟩ : ∃ s, (H.L[k]).1 = s := ⟨_, rfl⟩
      obtain ⟨G', hG⟩ : ∃ G, (H.L[k]).2 = G := ⟨_, rfl⟩
      have hsp := HlM.nth k hkl
      rw [hs, hG] at hsp
      rw [hs] at cg
      obtain ⟨A1, R, hG1, hp, -⟩ := HM.out.focus hsp
      have hH1 : Hp wr P (A1 ++ (R ++ F)) := hHr.perm (hp _)
      have j2 : (k : Int) < (n : Int) := by omega
      have j3 : (0 : Int) ≤ (k : Int) := by omega
      have hne : ¬ (G'.base : Int) = o := by
        have := HNO.out _ (List.getElem_mem hkl)
        rw [hG] at this
        exact this
      have HR := Lib.hid hHr
      clear hHr hs hG hsp hcell hp
      go_wp2_with fail
      refine (sbase_any hG1 hH1).mono ?_
      rintro e w1 ⟨rfl, rfl⟩
      go_wp2_with fail
      go_roundg gj
      case measure => omega
      case rel => exact ⟨k + 1, by omega, by simp, HR.out⟩
    · have hkn : k = n := by omega
      have ce : wr.cell? ⟨5, 0, none⟩ = some (.iface 306 (.pointer (some (E 6)))) := (hHr.use C.errs).at_ 6 (C.all 6 (by decide))
      have HHR := Lib.hid hHr
      clear hHr
      go_wp2_with fail
      go_quiet (fail)
      go_wp2_with fail
      go_ret2
      exact ⟨rfl, HHR.out.drewN _⟩

set_option maxRecDepth 100000 in
theorem hraw_on (C : Ctx S E B P) (hM : HlM h H A) (hO : HotOn D H b0 l) (hD : DkM P H.d D Ad) {L1 L2 : List (Nat × Sg)} {s : Nat} {G : Sg} (hL : H.L = L1 ++ (s, G) :: L2) (hH : Hp w P (A ++ (Ad ++ F))) :
    Calls Tryz.prog 51 #[ptr h, .int .i64 G.base] w fun e w' => ∃ v P', e = .returned (.tuple #[v, .nilIface]) ∧ Sub P P' ∧ Pers P' (fun w => SlB w v (flatB G.l)) ∧ Hp w' P' (A ++ (Ad ++ F)) := by
  obtain ⟨hGO, hGd, -, -⟩ := hO.sg (s, G) (by rw [hL]; simp)
  obtain ⟨A1, R, hG, hp, -⟩ := hM.focus hL
  have HH := Lib.hid hH
  clear hH
  go_enter Tryz.func51, Tryz.ntmps51
  go_wp2_with fail
  refine (hof_ok hM hO.W hL (fun p hp => by have := (hO.before hL hp).2; omega) HH.out).mono ?_
  rintro e w1 ⟨rfl, hH1⟩
  have H1 := Lib.hid (show Hp w1 P (A1 ++ (Ad ++ (R ++ F))) from (hH1.perm (hp (Ad ++ F))).perm (List.Perm.append_left A1 (perm_mid R Ad F)))
  clear hH1
  go_wp2_with fail
  refine (sraw_on C hG hGO (by rw [hGd]; exact hD) H1.out).mono ?_
  rintro e w2 ⟨v, P2, rfl, hs2, hp2, hH2⟩
  have H2 := Lib.hid (show Hp w2 P2 (A ++ (Ad ++ F)) from (hH2.perm (List.Perm.append_left A1 (perm_mid R Ad F).symm)).perm (hp (Ad ++ F)).symm)
  have HP2 := Lib.hid hp2
  have HS2 := Lib.hid hs2
  clear hH2 hp2 hs2
  go_wp2_with fail
  go_ret2
  exact ⟨v, P2, rfl, HS2.out, HP2.out, H2.out⟩

theorem hraw_none (C : Ctx S E B P) (hM : HlM h H A) (hW : HlW H) (o : Int) (hno : ∀ p, p ∈ H.L → (p.2.base : Int) ≠ o) (hH : Hp w P (A ++ F)) :
    Calls Tryz.prog 51 #[ptr h, .int .i64 o] w fun e w' => e = .returned (.tuple #[.slice none 0 0, .iface 306 (.pointer (some (E 6)))]) ∧ Hp w' P (A ++ F) := by
  have HH := Lib.hid hH
  clear hH
  go_enter Tryz.func51, Tryz.ntmps51
  go_wp2_with fail
  refine (hof_none C hM hW o hno HH.out).mono ?_
  rintro e w1 ⟨rfl, hH1⟩
  have H1 := Lib.hid hH1
  clear hH1
  go_wp2_with fail
  go_ret2
  exact ⟨rfl, H1.out⟩

theorem htime_on (hM : HlM h H A) (hO : HotOn D H b0 l) {L1 L2 : List (Nat × Sg)} {s : Nat} {G : Sg} (hL : H.L = L1 ++ (s, G) :: L2) (hH : Hp w P (A ++ F)) :
    Calls Tryz.prog 52 #[ptr h, .int .i64 G.base] w fun e w' => e = .returned (.tuple #[.int .i64 (stm G.l), .nilIface]) ∧ Hp w' P (A ++ F) := by
  obtain ⟨hGO, -, -, -⟩ := hO.sg (s, G) (by rw [hL]; simp)
  obtain ⟨A1, R, hG, hp, -⟩ := hM.focus hL
  have HH := Lib.hid hH
  clear hH
  go_enter Tryz.func52, Tryz.ntmps52
  go_wp2_with fail
  refine (hof_ok hM hO.W hL (fun p hp => by have := (hO.before hL hp).2; omega) HH.out).mono ?_
  rintro e w1 ⟨rfl, hH1⟩
  have H1 := Lib.hid (hH1.perm (hp F))
  clear hH1
  go_wp2_with fail
  refine (stime_ok hG hGO.W H1.out).mono ?_
  rintro e w2 ⟨rfl, hH2⟩
  have H2 := Lib.hid (hH2.perm (hp F).symm)
  clear hH2
  go_wp2_with fail
  go_ret2
  exact ⟨rfl, H2.out⟩

theorem htime_none (C : Ctx S E B P) (hM : HlM h H A) (hW : HlW H) (o : Int) (hno : ∀ p, p ∈ H.L → (p.2.base : Int) ≠ o) (hH : Hp w P (A ++ F)) :
    Calls Tryz.prog 52 #[ptr h, .int .i64 o] w fun e w' => e = .returned (.tuple #[.int .i64 0, .iface 306 (.pointer (some (E 6)))]) ∧ Hp w' P (A ++ F) := by
  have HH := Lib.hid hH
  clear hH
  go_enter Tryz.func52, Tryz.ntmps52
  go_wp2_with fail
  refine (hof_none C hM hW o hno HH.out).mono ?_
  rintro e w1 ⟨rfl, hH1⟩
  have H1 := Lib.hid hH1
  clear hH1
  go_wp2_with fail
  go_ret2
  exact ⟨rfl, H1.out⟩

set_option maxRecDepth 100000 in
theorem hmarks_on (hM : HlM h H A) (hO : HotOn D H b0 l) {L1 L2 : List (Nat × Sg)} {s : Nat} {G : Sg} (hL : H.L = L1 ++ (s, G) :: L2) (hsz : sizes l ≤ 1048576) (hH : Hp w P (A ++ F)) :
    Calls Tryz.prog 53 #[ptr h, .int .i64 G.base] w fun e w' => ∃ v P' bs, e = .returned (.tuple #[v, .nilIface]) ∧ Sub P P' ∧ Pers P' (fun w => SlB w v bs) ∧ 6 ≤ bs.length ∧ Hp w' P' (A ++ F) := by
  obtain ⟨hGO, -, hGe, -⟩ := hO.sg (s, G) (by rw [hL]; simp)
  try dsimp only at hGe
  obtain ⟨A1, R, hG, hp, -⟩ := hM.focus hL
  have hch := hO.chain hL
  have h1 := hO.e1
  have h2 := hO.e2
  have hsg := sum_sub H.L (s, G) (by rw [hL]; simp)
  rw [hO.fl] at hsg
  dsimp only at hsg
  have hgood := ixF_good G.every G.l hGO.ok (by omega) (by omega) (by have := sizes_low G.l; omega)
  have h6 : 6 ≤ (ixB (ixF G.every G.l)).length := by
    have h3 : 1 ≤ (vput (ixF G.every G.l).every).length := by unfold vput; split <;> simp
    have h4 : 1 ≤ (vput (ixF G.every G.l).marks.length).length := by unfold vput; split <;> simp
    simp only [ixB, sealB, List.length_append, leB_len]; omega
  have HH := Lib.hid hH
  have HG := Lib.hid hgood
  have H6 := Lib.hid h6
  clear hH hgood h6
  go_enter Tryz.func53, Tryz.ntmps53
  go_wp2_with fail
  refine (hof_ok hM hO.W hL (fun p hp => by have := (hO.before hL hp).2; omega) HH.out).mono ?_
  rintro e w1 ⟨rfl, hH1⟩
  have H1 := Lib.hid (hH1.perm (hp F))
  clear hH1
  go_wp2_with fail
  refine (sindex_ok hG hGO.W hch (by omega) (by omega) (by omega) H1.out).mono ?_
  rintro e w2 ⟨b, P2, rfl, hs2, hI2, hH2⟩
  have H2 := Lib.hid hH2
  have HI2 := Lib.hid hI2
  have HS2 := Lib.hid hs2
  clear hH2 hI2 hs2
  go_wp2_with fail
  refine (ixbytes_ok HI2.out HG.out H2.out).mono ?_
  rintro e w3 ⟨v, P3, rfl, hs3, hp3, hH3⟩
  have H3 := Lib.hid (hH3.perm (hp F).symm)
  have HP3 := Lib.hid hp3
  have HS3 := Lib.hid hs3
  clear hH3 hp3 hs3
  go_wp2_with fail
  go_ret2
  exact ⟨v, P3, _, rfl, HS2.out.trans HS3.out, HP3.out, H6.out, H3.out⟩
end
end Go.Proofs.YtepmblomgmghcaaGreatDoor.Sg
