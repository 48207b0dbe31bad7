/- index.right; an index in memory. crc.Seal; index.Bytes. -/
import Derived.Test.YtlkkagjpapjehaaGreatDoorMg

/-! Ia -/
namespace Go.Proofs.YtlkkagjpapjehaaGreatDoor.Sg
open Go.RowKit Er Go.Maps

/-- An index: how often, its marks (offset, time, place), what was added (offset, place), the greatest time. -/
structure Ix where
  every : Nat
  marks : List (Int × Int × Nat)
  adds : List (Int × Nat)
  tm : Int
def mkV (m : Int × Int × Nat) : List Value := [.int .i64 m.1, .int .i64 m.2.1, .int .i64 m.2.2]
def adV (m : Int × Nat) : List Value := [.int .i64 m.1, .int .i64 0, .int .i64 m.2]
def mksV (l : List (Int × Int × Nat)) : List Value := l.flatMap mkV
def adsV (l : List (Int × Nat)) : List Value := l.flatMap adV
theorem mksV_app (l m : List (Int × Int × Nat)) : mksV (l ++ m) = mksV l ++ mksV m := by simp [mksV]
theorem adsV_app (l m : List (Int × Nat)) : adsV (l ++ m) = adsV l ++ adsV m := by simp [adsV]
def ixC (X : Ix) (mv av : Value) : Array Value := #[.int .i64 X.every, mv, av, .int .i64 X.tm]
/-- An index's blocks: its own one, its marks', its adds'. -/
def IxM (i : Nat) (X : Ix) (A : Mm) : Prop := ∃ mv av Am Aa, A = (i, Obj.cells (ixC X mv av) 107 (0, 0)) :: (Am ++ Aa) ∧ RowM 115 3 mv X.marks.length (mksV X.marks) Am ∧ RowM 115 3 av X.adds.length (adsV X.adds) Aa

set_option maxRecDepth 100000 in
theorem iright_ok (o t : Int) (p : Nat) (w : World) (h1 : 0 ≤ o) (h2 : o ≤ 1099511627776) (h3 : -1099511627776 ≤ t) (h4 : t ≤ 1099511627776) (h5 : p ≤ 1073741824) :
    Calls Tryz.prog 71 #[.agg #[.int .i64 o, .int .i64 t, .int .i64 p]] w fun e w' => e = .returned (.bool true) ∧ Below w.heap.size w w' := by
  have i5 : (p : Int) ≤ 1073741824 := by omega
  have i6 : (0 : Int) ≤ (p : Int) := by omega
  go_enter Tryz.func71, Tryz.ntmps71
  go_wp2_with fail
  go_ret
  exact ⟨rfl, (Below.refl _ _).alloc (Nat.le_refl _) _⟩

theorem infoMk : (Tryz.prog.info? 115).map (fun i => (i.zero, i.size, i.bytes)) = some (some (.agg #[.int .i64 0, .int .i64 0, .int .i64 0]), 3, 24) := by kernel_rfl

end Go.Proofs.YtlkkagjpapjehaaGreatDoor.Sg

/-! Ic -/
namespace Go.Proofs.YtlkkagjpapjehaaGreatDoor.Sg
open Go.RowKit Er Go.Maps

theorem lastOf' {α : Type} (l : List α) : l = [] ∨ ∃ m x, l = m ++ [x] := by
  rcases List.eq_nil_or_concat l with h | ⟨m, x, h⟩
  · exact .inl h
  · exact .inr ⟨m, x, by rw [h, List.concat_eq_append]⟩

/-- Bytes with their sum behind. -/
def sealB (b : List Nat) : List Nat := b ++ leB (crcF 0 b) 4
theorem sealB_lt (b : List Nat) (h : ∀ x ∈ b, x < 256) : ∀ x ∈ sealB b, x < 256 := by
  intro x hx
  rcases List.mem_append.1 hx with hx | hx
  · exact h x hx
  · exact leB_lt _ _ x hx
theorem leB4 (c : Nat) (h : c < 4294967296) : bcells (leB c 4) = [.int .u8 ((c : Int) % 256), .int .u8 ((c : Int) / 256 % 256), .int .u8 ((c : Int) / 65536 % 256), .int .u8 ((c : Int) / 16777216)] := by
  simp [leB, bcells, List.range_succ]
  omega

/-- The first two blocks change places. -/
theorem Hp.swap {w : World} {P : Pm} {x y : Nat × Obj} {M : Mm} (h : Hp w P (x :: y :: M)) : Hp w P (y :: x :: M) := Hp.mid (A := [x]) (B := [y]) (C := M) h
/-- New bytes that a call hands back are laid by for good. -/
theorem Hp.newBytes {w w' : World} {P : Pm} {F : Mm} (hH : Hp w P F) {v : Value} {n : Nat} {xs : List Nat} (hb : Below w.heap.size w w') (ho : w'.ownsRow w.heap.size 5 1 v n (bcells xs)) :
    ∃ P', Sub P P' ∧ Hp w' P' F ∧ Pers P' (fun w => SlB w v xs) := by
  obtain ⟨A, hr, hH'⟩ := hH.rowNew (hH.below hb (Nat.le_refl _)) ho (Nat.le_refl _)
  exact hH'.sealBytes hr

set_option maxRecDepth 100000 in
set_option maxHeartbeats 1000000 in
theorem seal_any (v : Value) (xs : List Nat) (w : World) (h : SlB w v xs) (hx : ∀ x ∈ xs, x < 256) (hl : xs.length ≤ 1099511627776) :
    Calls Tryz.prog 74 #[v] w fun e w' => (∃ v', e = .returned v' ∧ w'.ownsRow w.heap.size 5 1 v' (sealB xs).length (bcells (sealB xs))) ∧ Below w.heap.size w w' := by
  obtain ⟨va, vc, rfl, hvc⟩ := h.shape
  have HY0 := Lib.hid (h.below ((Below.refl _ _).alloc (Nat.le_refl _) (.cells #[.slice va xs.length vc] 44)) rfl)
  have hcr := crcF_lt 0 xs
  obtain ⟨c, hc⟩ : ∃ c, crcF 0 xs = c := ⟨_, rfl⟩
  rw [hc] at hcr
  have HC := Lib.hid hc
  clear h hc
  go_enter Tryz.func74, Tryz.ntmps74
  go_wp2_with fail
  refine (of_any _ _ (.slice va xs.length vc) xs _ (by go_simp) (by simp) HY0.out hx hl).mono ?_
  rintro e w1 ⟨rfl, hb1⟩
  rw [HC.out]
  have hb01 : Below w.heap.size w w1 := ((Below.refl _ _).alloc (Nat.le_refl _) _).trans (hb1.mono (by simp))
  have HY1 := Lib.hid (HY0.out.below hb1 rfl)
  have HB1 := Lib.hid hb01
  clear hb1 hb01
  go_wp2_with fail
  refine (clone_any _ xs _ HY1.out hl).mono ?_
  rintro e w2 ⟨⟨v2, rfl, hown2, -⟩, hb2⟩
  have hs1 := HB1.out.size
  have hb02 := HB1.out.trans (hb2.mono hs1)
  have hs2 := hb02.size
  have HO2 := Lib.hid (owns_bound hown2 hs1)
  have HB2 := Lib.hid hb02
  have HN := Lib.hid (slB_new w2 (leB c 4) 5)
  rw [leB4 c hcr, leB_len] at HN
  clear hown2 hb2 hb02
  go_wp2_with (at_builtin; refine wpList_append_bytes rfl _ _ rfl w.heap.size _ _ _ rfl (HO2.out.alloc _) _ (leB c 4) rfl HN.out ?c3 ?c5 ?_)
  case c3 => rw [leB_len]; omega
  case c5 => simp; omega
  intro v6 w6 hown6 hgr6 _ _
  have HO6 := Lib.hid hown6
  have HG6 := Lib.hid hgr6
  clear hown6 hgr6
  go_wp2_with fail
  go_ret
  refine ⟨⟨_, rfl, ?_⟩, ?_⟩
  · have := HO6.out
    unfold sealB
    rw [HC.out, List.length_append]
    exact this
  · exact (HB2.out.alloc (by omega) _).grown HG6.out (by simp; omega) (own_fresh HO2.out)


theorem u64wrap (z : Int) : IntKind.u64.wrap z = z % 18446744073709551616 := by
  simp only [IntKind.wrap, IntKind.bits, IntKind.signed]; simp
def u64of (z : Int) : Nat := (z % 18446744073709551616).toNat
theorem u64of_eq (z : Int) : IntKind.u64.wrap z = ((u64of z : Nat) : Int) := by rw [u64wrap]; unfold u64of; omega
theorem u64of_lt (z : Int) : u64of z < 18446744073709551616 := by unfold u64of; omega
def mkBy (l m : Int × Int × Nat) : List Nat := vput (u64of (m.1 - l.1)) ++ vput (zig (m.2.1 - l.2.1)) ++ vput (u64of ((m.2.2 : Int) - l.2.2))
def mksBy : List (Int × Int × Nat) → Int × Int × Nat → List Nat
  | [], _ => []
  | m :: r, l => mkBy l m ++ mksBy r m
def endM (l : List (Int × Int × Nat)) (d : Int × Int × Nat) : Int × Int × Nat := l.getLast?.getD d
theorem endM_snoc (l : List (Int × Int × Nat)) (d m : Int × Int × Nat) : endM (l ++ [m]) d = m := by simp [endM]
theorem mksBy_snoc : ∀ (l : List (Int × Int × Nat)) (d m : Int × Int × Nat), mksBy (l ++ [m]) d = mksBy l d ++ mkBy (endM l d) m
  | [], d, m => by simp [mksBy, endM]
  | x :: l, d, m => by
    show mkBy d x ++ mksBy (l ++ [m]) x = mkBy d x ++ mksBy l x ++ mkBy (endM (x :: l) d) m
    rw [mksBy_snoc l x m, List.append_assoc]
    congr 3
    cases l with
    | nil => simp [endM]
    | cons y l => simp [endM, List.getLast?_cons]
/-- An index as bytes. -/
def ixB (X : Ix) : List Nat := sealB (vput X.every ++ vput X.marks.length ++ mksBy X.marks (0, 0, 0))

structure IxGood (X : Ix) : Prop where
  ev : X.every ≤ 1048576
  len : X.marks.length ≤ 1000000
  mks : ∀ m, m ∈ X.marks → 0 ≤ m.1 ∧ m.1 ≤ 1099511627776 ∧ -1099511627776 ≤ m.2.1 ∧ m.2.1 ≤ 1099511627776 ∧ m.2.2 ≤ 1073741824
theorem mkBy_len (l m : Int × Int × Nat) (h1 : -1099511627776 ≤ l.2.1 ∧ l.2.1 ≤ 1099511627776) (h2 : -1099511627776 ≤ m.2.1 ∧ m.2.1 ≤ 1099511627776) : (mkBy l m).length ≤ 30 := by
  have a := vput_len64 _ (u64of_lt (m.1 - l.1))
  have b := vput_len64 _ (show zig (m.2.1 - l.2.1) < 18446744073709551616 by have := zig_lt (m.2.1 - l.2.1) (by omega) (by omega); omega)
  have c := vput_len64 _ (u64of_lt ((m.2.2 : Int) - l.2.2))
  simp only [mkBy, List.length_append]; omega
theorem mksBy_len : ∀ (r : List (Int × Int × Nat)) (l : Int × Int × Nat), (-1099511627776 ≤ l.2.1 ∧ l.2.1 ≤ 1099511627776) → (∀ m, m ∈ r → -1099511627776 ≤ m.2.1 ∧ m.2.1 ≤ 1099511627776) → (mksBy r l).length ≤ 30 * r.length
  | [], l, _, _ => by simp [mksBy]
  | m :: r, l, h, hr => by
    have h1 := mkBy_len l m h (hr m List.mem_cons_self)
    have h2 := mksBy_len r m (hr m List.mem_cons_self) (fun x hx => hr x (List.mem_cons_of_mem _ hx))
    simp only [mksBy, List.length_append, List.length_cons]; omega
theorem mksBy_lt : ∀ (r : List (Int × Int × Nat)) (l : Int × Int × Nat), ∀ x ∈ mksBy r l, x < 256
  | [], l, x, hx => by simp [mksBy] at hx
  | m :: r, l, x, hx => by
    simp only [mksBy, mkBy, List.mem_append] at hx
    rcases hx with ((hx | hx) | hx) | hx
    · exact vput_lt _ x hx
    · exact vput_lt _ x hx
    · exact vput_lt _ x hx
    · exact mksBy_lt r m x hx

section
variable {P : Pm} {ix : Nat} {X : Ix} {A F : Mm} {w : World}

/-- What of an index is read. -/
def IxR (w : World) (ix : Nat) (X : Ix) (mv : Value) : Prop := w.cell? ⟨ix, 0, none⟩ = some (.int .i64 X.every) ∧ w.cell? ⟨ix, 1, none⟩ = some mv ∧
    ∀ (k : Nat) (m : Int × Int × Nat), X.marks[k]? = some m → ∃ g c, mv = .slice (some ⟨g, 0, none⟩) X.marks.length c ∧ X.marks.length ≤ c ∧ w.cell? ⟨g, k * 3, none⟩ = some (.int .i64 m.1) ∧ w.cell? ⟨g, k * 3 + 1, none⟩ = some (.int .i64 m.2.1) ∧ w.cell? ⟨g, k * 3 + 2, none⟩ = some (.int .i64 m.2.2)
def IxP (P : Pm) (ix : Nat) (X : Ix) : Prop := ∃ ma mc, Pers P (fun w => IxR w ix X (.slice ma X.marks.length mc))
theorem IxP.sub {P' : Pm} (h : IxP P ix X) (s : Sub P P') : IxP P' ix X := by
  obtain ⟨ma, mc, h⟩ := h
  exact ⟨ma, mc, h.sub s⟩
theorem mksV_at : ∀ (l : List (Int × Int × Nat)) (k j : Nat) (u : Value) (m : Int × Int × Nat), l[k]? = some m → (mkV m)[j]? = some u → (mksV l)[k * 3 + j]? = some u := by
  intro l
  induction l with
  | nil => intro k j u m h; simp at h
  | cons x l ih =>
    intro k j u m h hu
    have hj : j < 3 := by have := (List.getElem?_eq_some_iff.1 hu).1; simpa [mkV] using this
    show (mkV x ++ mksV l)[k * 3 + j]? = some u
    rcases k with _ | k
    · simp at h; subst h
      rw [List.getElem?_append_left (by simp [mkV]; omega)]; simpa using hu
    · rw [List.getElem?_append_right (by simp [mkV]; omega)]
      have := ih k j u m (by simpa using h) hu
      rwa [show (k + 1) * 3 + j - (mkV x).length = k * 3 + j from by simp [mkV]; omega]
theorem IxM.read (h : IxM ix X A) : ∃ ma mc, ∀ w P F, Hp w P (A ++ F) → IxR w ix X (.slice ma X.marks.length mc) := by
  obtain ⟨mv, av, Am, Aa, rfl, hm, ha⟩ := h
  obtain ⟨ma, mc, rfl⟩ := hm.shape
  refine ⟨ma, mc, fun w P F hH => ?_⟩
  have hb : (ix, Obj.cells (ixC X (.slice ma X.marks.length mc) av) 107 (0, 0)) ∈ (ix, Obj.cells (ixC X (.slice ma X.marks.length mc) av) 107 (0, 0)) :: (Am ++ Aa) ++ F := by simp
  refine ⟨hH.cell hb rfl, hH.cell hb rfl, fun k m hk => ?_⟩
  have hH2 : Hp w P (Am ++ ((ix, Obj.cells (ixC X (.slice ma X.marks.length mc) av) 107 (0, 0)) :: (Aa ++ F))) := by
    have h1 := Hp.mid (A := [(ix, Obj.cells (ixC X (.slice ma X.marks.length mc) av) 107 (0, 0))]) (B := Am) (C := Aa ++ F) (by simpa using hH)
    simpa using h1
  obtain ⟨g, c, e, hc, y0⟩ := hm.cell hH2 (mksV_at X.marks k 0 _ m hk rfl)
  obtain ⟨g1, c1, e1, -, y1⟩ := hm.cell hH2 (mksV_at X.marks k 1 _ m hk rfl)
  obtain ⟨g2, c2, e2, -, y2⟩ := hm.cell hH2 (mksV_at X.marks k 2 _ m hk rfl)
  rw [e] at e1 e2
  cases e1; cases e2
  exact ⟨g, c, e, hc, y0, y1, y2⟩
/-- All but F is let be for good. -/
theorem Hp.sealTo {M : Mm} (h : Hp w P (M ++ F)) : ∃ P', Sub P P' ∧ Hp w P' F ∧ ∀ x, x ∈ M → P'.m x.1 = some x.2 := by
  have h1 := h.drop.all
  refine ⟨_, h1.1, h1.2, fun x hx => ?_⟩
  have hn : x.1 ∉ ids F := fun hm => by
    have := h.nodup
    rw [List.map_append] at this
    exact (List.nodup_append.1 this).2.2 x.1 (List.mem_map.2 ⟨x, hx, rfl⟩) x.1 hm rfl
  show (if x.1 ∈ ids F then none else w.heap[x.1]?) = some x.2
  rw [if_neg hn]; exact h.own x (List.mem_append_left _ hx)
theorem Hp.of_agr {M : Mm} (hnd : (M.map (·.1)).Nodup) (hM : ∀ x, x ∈ M → P.m x.1 = some x.2) {w : World} (hw : Agr P w) : Hp w (Pm.all w M) M :=
  ⟨⟨rfl, rfl, rfl, Nat.le_refl _, fun b o hb => by
    change (if b ∈ ids M then none else w.heap[b]?) = some o at hb
    by_cases e : b ∈ ids M
    · rw [if_pos e] at hb; cases hb
    · rw [if_neg e] at hb; exact hb⟩, fun x hx => hw.m _ _ (hM x hx), hnd, fun x hx => if_pos (List.mem_map.2 ⟨x, hx, rfl⟩)⟩
theorem IxM.seal (h : IxM ix X A) (hH : Hp w P (A ++ F)) : ∃ P', Sub P P' ∧ Hp w P' F ∧ IxP P' ix X := by
  obtain ⟨P', h1, h2, h3⟩ := hH.sealTo
  obtain ⟨ma, mc, hr⟩ := h.read
  refine ⟨P', h1, h2, ma, mc, fun w' hw => ?_⟩
  have hnd := hH.nodup
  rw [List.map_append] at hnd
  have := Hp.of_agr (P := P') (List.nodup_append.1 hnd).1 h3 hw
  exact hr _ _ [] (by simpa using this)

/-- What holds at the head of index.Bytes's loop. -/
def BysRel (P : Pm) (M : Mm) (X : Ix) (bl m : Nat) (vb vi : Value) (w : World) : Prop :=
  ∃ (k : Nat) (P' : Pm), k + m = X.marks.length ∧ vi = .int .i64 k ∧ Sub P P' ∧ Pers P' (fun w => SlB w vb (vput X.every ++ vput X.marks.length ++ mksBy (X.marks.take k) (0, 0, 0))) ∧
    Hp w P' ((bl, Obj.cells #[.int .i64 (endM (X.marks.take k) (0, 0, 0)).1, .int .i64 (endM (X.marks.take k) (0, 0, 0)).2.1, .int .i64 (endM (X.marks.take k) (0, 0, 0)).2.2] 115 (0, 0)) :: M)

set_option maxRecDepth 100000 in
set_option maxHeartbeats 2000000 in
theorem ixbytes_ok (hI : IxP P ix X) (hg : IxGood X) (hH : Hp w P F) :
    Calls Tryz.prog 37 #[ptr ix] w fun e w' => ∃ v P', e = .returned v ∧ Sub P P' ∧ Pers P' (fun w => SlB w v (ixB X)) ∧ Hp w' P' F := by
  obtain ⟨ma, mc, hI⟩ := hI
  obtain ⟨c0, c1, -⟩ := hH.use hI
  obtain ⟨n, hn⟩ : ∃ n, X.marks.length = n := ⟨_, rfl⟩
  have hev := hg.ev
  have hln := hg.len
  rw [hn] at hln c1
  have HN := Lib.hid hn
  have HG := Lib.hid hg
  have HI := Lib.hid hI
  have H0 := Lib.hid hH
  clear hn hg hI hH
  go_enter Tryz.func37, Tryz.ntmps37
  go_wp2_with fail
  refine (put_any X.every (by omega) _ [] _ (SlB.nil _) (by simp)).mono ?_
  rintro e w1 ⟨⟨v1, rfl, ho1⟩, hb1⟩
  obtain ⟨P1, hs1, hH1, hp1⟩ := H0.out.newBytes hb1 ho1
  rw [List.nil_append] at hp1
  have hq1 := vput_len64 X.every (by omega)
  obtain ⟨b1, x1, rfl, hx1⟩ := (hH1.use hp1).shape
  obtain ⟨c0, c1, -⟩ := hH1.use (HI.out.sub hs1)
  rw [HN.out] at c1
  have HP1 := Lib.hid hp1
  have HS1 := Lib.hid hs1
  have H1 := Lib.hid hH1
  clear ho1 hb1 hp1 hs1 hH1
  go_wp2_with fail
  refine (put_any n (by omega) _ (vput X.every) _ (H1.out.use HP1.out) (by omega)).mono ?_
  rintro e w2 ⟨⟨v2, rfl, ho2⟩, hb2⟩
  obtain ⟨P2, hs2, hH2, hp2⟩ := H1.out.newBytes hb2 ho2
  have hq2 := vput_len64 n (by omega)
  obtain ⟨b2, x2, rfl, hx2⟩ := (hH2.use hp2).shape
  obtain ⟨c0, c1, -⟩ := hH2.use (HI.out.sub (HS1.out.trans hs2))
  rw [HN.out] at c1
  have hixl : ix < w2.heap.size := World.block_lt_of_cell? _ _ c1
  have HP2 := Lib.hid hp2
  have HS2 := Lib.hid (HS1.out.trans hs2)
  have H3 := Lib.hid (hH2.alloc (.cells #[.int .i64 0, .int .i64 0, .int .i64 0] 115))
  obtain ⟨bl, hbl⟩ : ∃ bl, w2.heap.size = bl := ⟨_, rfl⟩
  rw [hbl] at H3
  have HBL := Lib.hid hbl
  clear ho2 hb2 hp2 hs2 hH2 hbl
  go_wp2_with fail
  rw [HBL.out]
  go_loopg [3, 26] n (fun m vb vi wr => BysRel P F X bl m vb vi wr)
  case atStart => exact ⟨0, P2, by rw [HN.out]; omega, rfl, HS2.out, by simpa [mksBy, HN.out] using HP2.out, by simpa [endM] using H3.out⟩
  case round =>
    obtain ⟨k, P3, hk, rfl, hs3, hp3, hHr⟩ := hrel
    rw [HN.out] at hk
    by_cases hlt : k < n
    · obtain ⟨gj, rfl⟩ : ∃ x, gk = x + 1 := ⟨gk - 1, by omega⟩
      have hkl : k < X.marks.length := by rw [HN.out]; exact hlt
      obtain ⟨⟨mo, mt, mp⟩, hx⟩ : ∃ x, X.marks[k] = x := ⟨_, rfl⟩
      obtain ⟨⟨lo, lt, lp⟩, hl⟩ : ∃ x, endM (X.marks.take k) (0, 0, 0) = x := ⟨_, rfl⟩
      have htn : mksBy (X.marks.take (k + 1)) (0, 0, 0) = mksBy (X.marks.take k) (0, 0, 0) ++ mkBy (lo, lt, lp) (mo, mt, mp) := by rw [take_next _ k hkl, mksBy_snoc, hl, hx]
      have hen : endM (X.marks.take (k + 1)) (0, 0, 0) = (mo, mt, mp) := by rw [take_next _ k hkl, endM_snoc, hx]
      obtain ⟨m1, m2, m3, m4, m5⟩ := HG.out.mks (mo, mt, mp) (by rw [← hx]; exact List.getElem_mem hkl)
      have hlb : 0 ≤ lo ∧ lo ≤ 1099511627776 ∧ -1099511627776 ≤ lt ∧ lt ≤ 1099511627776 ∧ lp ≤ 1073741824 := by
        rcases lastOf' (X.marks.take k) with h | ⟨l0, y, h⟩
        · rw [h] at hl; cases hl; decide
        · rw [h, endM_snoc] at hl
          subst hl
          exact HG.out.mks (lo, lt, lp) (List.mem_of_mem_take (i := k) (by rw [h]; simp))
      obtain ⟨l1, l2, l3, l4, l5⟩ := hlb
      obtain ⟨pre, hpre⟩ : ∃ b, vput X.every ++ vput n ++ mksBy (X.marks.take k) (0, 0, 0) = b := ⟨_, rfl⟩
      have hpl : pre.length ≤ 100000000 := by
        have h1 := mksBy_len (X.marks.take k) (0, 0, 0) (by decide) (fun m hm => by have := HG.out.mks m (List.mem_of_mem_take hm); exact ⟨this.2.2.1, this.2.2.2.1⟩)
        have h2 : (X.marks.take k).length ≤ k := by simp; omega
        rw [← hpre]; simp only [List.length_append]; omega
      rw [HN.out, hpre] at hp3
      rw [hl] at hHr
      obtain ⟨-, -, hmc⟩ := hHr.use (HI.out.sub hs3)
      obtain ⟨gm, cm, e, hcm, y0, y1, y2⟩ := hmc k (mo, mt, mp) (by rw [List.getElem?_eq_getElem hkl, hx])
      cases e
      rw [HN.out] at hcm
      obtain ⟨vba, vbc, rfl, hvb⟩ := (hHr.use hp3).shape
      have d0 := (@Hp.cell _ _ _ hHr bl _ _ (0, 0) List.mem_cons_self) (i := 0) rfl
      have d1 := (@Hp.cell _ _ _ hHr bl _ _ (0, 0) List.mem_cons_self) (i := 1) rfl
      have d2 := (@Hp.cell _ _ _ hHr bl _ _ (0, 0) List.mem_cons_self) (i := 2) rfl
      have dl : bl < wr.heap.size := hHr.lt List.mem_cons_self
      have H6 := Lib.hid (hHr.alloc (.cells #[.int .i64 mo, .int .i64 mt, .int .i64 mp] 115))
      have HP3 := Lib.hid hp3
      have HS3 := Lib.hid hs3
      have HTN := Lib.hid htn
      have HEN := Lib.hid hen
      have HPRE := Lib.hid hpre
      obtain ⟨bm, hbm⟩ : ∃ bm, wr.heap.size = bm := ⟨_, rfl⟩
      rw [hbm] at H6
      have HBM := Lib.hid hbm
      have j2 : (k : Int) < (n : Int) := by omega
      have j3 : (0 : Int) ≤ (k : Int) := by omega
      clear hmc hHr hp3 hs3 htn hen hpre hx hl hbm
      go_wp2_with fail
      rw [HBM.out, u64of_eq]
      refine (put_any (u64of (mo - lo)) (u64of_lt _) _ pre _ (H6.out.use HP3.out) (by omega)).mono ?_
      rintro e w7 ⟨⟨v7, rfl, ho7⟩, hb7⟩
      obtain ⟨P7, hs7, hH7, hp7⟩ := H6.out.newBytes hb7 ho7
      have e1 := (@Hp.cell _ _ _ hH7 bm _ _ (0, 0) List.mem_cons_self) (i := 1) rfl
      have f1 := (@Hp.cell _ _ _ hH7 bl _ _ (0, 0) (List.mem_cons_of_mem _ List.mem_cons_self)) (i := 1) rfl
      obtain ⟨v7a, v7c, rfl, hv7⟩ := (hH7.use hp7).shape
      have hq7 := vput_len64 _ (u64of_lt (mo - lo))
      obtain ⟨n7, hn7⟩ : ∃ b, vput (u64of (mo - lo)) = b := ⟨_, rfl⟩
      rw [hn7] at hp7 hq7 hv7 ⊢
      have hl7 : (pre ++ n7).length ≤ 100000010 := by rw [List.length_append]; omega
      obtain ⟨l7, hl7e⟩ : ∃ l, (pre ++ n7).length = l := ⟨_, rfl⟩
      rw [hl7e] at hp7 hv7 hl7 ⊢
      have HL7 := Lib.hid hl7e
      clear hl7e
      have HP7 := Lib.hid hp7
      have HS7 := Lib.hid (HS3.out.trans hs7)
      have H7 := Lib.hid hH7
      have HN7 := Lib.hid hn7
      clear ho7 hb7 hs7 hH7 hp7 hn7
      go_wp2_with fail
      refine (putint_any (mt - lt) (by omega) (by omega) _ (pre ++ n7) _ (H7.out.use HP7.out) (by rw [HL7.out]; omega)).mono ?_
      rintro e w8 ⟨⟨v8, rfl, ho8⟩, hb8⟩
      obtain ⟨P8, hs8, hH8, hp8⟩ := H7.out.newBytes hb8 ho8
      have e2 := (@Hp.cell _ _ _ hH8 bm _ _ (0, 0) List.mem_cons_self) (i := 2) rfl
      have f2 := (@Hp.cell _ _ _ hH8 bl _ _ (0, 0) (List.mem_cons_of_mem _ List.mem_cons_self)) (i := 2) rfl
      obtain ⟨v8a, v8c, rfl, hv8⟩ := (hH8.use hp8).shape
      have hq8 := vput_len64 _ (show zig (mt - lt) < 18446744073709551616 by have := zig_lt (mt - lt) (by omega) (by omega); omega)
      obtain ⟨n8, hn8⟩ : ∃ b, vput (zig (mt - lt)) = b := ⟨_, rfl⟩
      rw [hn8] at hp8 hq8 hv8 ⊢
      have hl8 : (pre ++ n7 ++ n8).length ≤ 100000020 := by rw [List.length_append, HL7.out]; omega
      obtain ⟨l8, hl8e⟩ : ∃ l, (pre ++ n7 ++ n8).length = l := ⟨_, rfl⟩
      rw [hl8e] at hp8 hv8 hl8 ⊢
      have HL8 := Lib.hid hl8e
      clear hl8e
      have HP8 := Lib.hid hp8
      have HS8 := Lib.hid (HS7.out.trans hs8)
      have H8 := Lib.hid hH8
      have HN8 := Lib.hid hn8
      clear ho8 hb8 hs8 hH8 hp8 hn8
      go_wp2_with fail
      rw [u64of_eq]
      refine (put_any (u64of ((mp : Int) - (lp : Int))) (u64of_lt _) _ (pre ++ n7 ++ n8) _ (H8.out.use HP8.out) (by rw [HL8.out]; omega)).mono ?_
      rintro e w9 ⟨⟨v9, rfl, ho9⟩, hb9⟩
      obtain ⟨P9, hs9, hH9, hp9⟩ := H8.out.newBytes hb9 ho9
      have g0 := (@Hp.cell _ _ _ hH9 bm _ _ (0, 0) List.mem_cons_self) (i := 0) rfl
      have g1 := (@Hp.cell _ _ _ hH9 bm _ _ (0, 0) List.mem_cons_self) (i := 1) rfl
      have g2 := (@Hp.cell _ _ _ hH9 bm _ _ (0, 0) List.mem_cons_self) (i := 2) rfl
      have hl0 := (@Hp.cell _ _ _ hH9 bl _ _ (0, 0) (List.mem_cons_of_mem _ List.mem_cons_self)) (i := 0) rfl
      have hl1 := (@Hp.cell _ _ _ hH9 bl _ _ (0, 0) (List.mem_cons_of_mem _ List.mem_cons_self)) (i := 1) rfl
      have hl2 := (@Hp.cell _ _ _ hH9 bl _ _ (0, 0) (List.mem_cons_of_mem _ List.mem_cons_self)) (i := 2) rfl
      have hf0 := @Hp.frozen _ _ _ hH9 bl _ _ (List.mem_cons_of_mem _ List.mem_cons_self) 0
      have hf1 := @Hp.frozen _ _ _ hH9 bl _ _ (List.mem_cons_of_mem _ List.mem_cons_self) 1
      have hf2 := @Hp.frozen _ _ _ hH9 bl _ _ (List.mem_cons_of_mem _ List.mem_cons_self) 2
      have hp9' : Pers P9 (fun w => SlB w v9 (vput X.every ++ vput n ++ mksBy (X.marks.take (k + 1)) (0, 0, 0))) := by
        rw [HTN.out, ← List.append_assoc, HPRE.out]
        show Pers P9 (fun w => SlB w v9 (pre ++ (vput (u64of (mo - lo)) ++ vput (zig (mt - lt)) ++ vput (u64of ((mp : Int) - (lp : Int))))))
        rw [HN7.out, HN8.out, ← List.append_assoc, ← List.append_assoc]
        exact hp9
      have HP9 := Lib.hid hp9'
      have HS9 := Lib.hid (HS8.out.trans hs9)
      have H9 := Lib.hid hH9.swap
      clear ho9 hb9 hs9 hH9 hp9 hp9'
      go_wp2_with fail
      go_roundg gj
      case measure => omega
      case rel =>
        refine ⟨k + 1, P9, by rw [HN.out]; omega, by simp, HS9.out, by rw [HN.out]; exact HP9.out, ?_⟩
        rw [HEN.out]
        have h1 := ((H9.out.set 0 (.int .i64 mo)).set 1 (.int .i64 mt)).set 2 (.int .i64 mp)
        have h2 := h1.swap.tail
        simpa using h2
    · have hkn : k = n := by omega
      have e : X.marks.take k = X.marks := by rw [hkn, ← HN.out]; exact List.take_length
      rw [e, HN.out] at hp3
      have hlt2 : ∀ x ∈ vput X.every ++ vput n ++ mksBy X.marks (0, 0, 0), x < 256 := by
        intro x hx
        simp only [List.mem_append] at hx
        rcases hx with (hx | hx) | hx
        · exact vput_lt _ x hx
        · exact vput_lt _ x hx
        · exact mksBy_lt _ _ x hx
      have hll : (vput X.every ++ vput n ++ mksBy X.marks (0, 0, 0)).length ≤ 100000000 := by
        have h1 := mksBy_len X.marks (0, 0, 0) (by decide) (fun m hm => by have := HG.out.mks m hm; exact ⟨this.2.2.1, this.2.2.2.1⟩)
        have h2 := HN.out
        simp only [List.length_append]; omega
      have hix : ixB X = sealB (vput X.every ++ vput n ++ mksBy X.marks (0, 0, 0)) := by rw [← HN.out]; rfl
      obtain ⟨pre, hpre⟩ : ∃ b, vput X.every ++ vput n ++ mksBy X.marks (0, 0, 0) = b := ⟨_, rfl⟩
      rw [hpre] at hp3 hlt2 hll hix
      have HIX := Lib.hid hix
      obtain ⟨vba, vbc, rfl, hvb⟩ := (hHr.use hp3).shape
      have H3 := Lib.hid hHr.tail
      have HP3 := Lib.hid hp3
      have HS3 := Lib.hid hs3
      have HLT := Lib.hid hlt2
      clear hHr hp3 hs3 hlt2 e hix hpre
      go_wp2_with fail
      refine (seal_any _ pre _ (H3.out.use HP3.out) HLT.out (by omega)).mono ?_
      rintro e w9 ⟨⟨v9, rfl, ho9⟩, hb9⟩
      obtain ⟨P9, hs9, hH9, hp9⟩ := H3.out.newBytes hb9 ho9
      have HP9 := Lib.hid hp9
      have HS9 := Lib.hid (HS3.out.trans hs9)
      have H9 := Lib.hid hH9
      clear ho9 hb9 hs9 hH9 hp9
      go_wp2_with fail
      go_ret
      exact ⟨v9, P9, rfl, HS9.out, by rw [HIX.out]; exact HP9.out, H9.out⟩
end

end Go.Proofs.YtlkkagjpapjehaaGreatDoor.Sg
