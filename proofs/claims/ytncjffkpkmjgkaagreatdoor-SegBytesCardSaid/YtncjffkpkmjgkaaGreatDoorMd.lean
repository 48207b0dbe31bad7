/- A segment in memory; seg.last, End, Size. seg.End, Size, Base, follows. seg.put. seg.Append. seg.batch. seg.From in all cases; what seg.Read is to tell; batches in a row. seg.Read. name.wide, name.Segment. index.New, seg.fresh, seg.Create. -/
import Derived.Test.YtncjffkpkmjgkaaGreatDoorMc
import Derived.Test.YtncjffkpkmjgkaaGreatDoorMb
import Derived.Test.YtncjffkpkmjgkaaGreatDoorSh
import Derived.Lib.AppendIntMem

/-! Ga -/
namespace Go.Proofs.YtncjffkpkmjgkaaGreatDoor.Sg
open Go.RowKit Er Go.Maps

def szB (x : Bt) : Nat := (batB x).length
def sizes (l : List Bt) : Nat := (l.map szB).sum
def placeL (p : Nat) (x : Bt) : List Value := [.int .i64 x.b, .int .i64 (x.b + x.r.length), .int .i64 p, .int .i64 (szB x), .int .i64 x.e, .int .i64 (tmax x)]
def placesV : Nat → List Bt → List Value
  | _, [] => []
  | p, x :: l => placeL p x ++ placesV (p + szB x) l
theorem sizes_app (l m : List Bt) : sizes (l ++ m) = sizes l + sizes m := by simp [sizes]
theorem placesV_app (p : Nat) (l m : List Bt) : placesV p (l ++ m) = placesV p l ++ placesV (p + sizes l) m := by
  induction l generalizing p with
  | nil => simp [placesV, sizes]
  | cons y l ih => simp [placesV, ih, sizes, Nat.add_assoc]
theorem placesV_len (p : Nat) (l : List Bt) : (placesV p l).length = l.length * 6 := by
  induction l generalizing p with
  | nil => rfl
  | cons y l ih => simp [placesV, ih, placeL]; omega
theorem placesV_at (p : Nat) (l : List Bt) (k : Nat) (hk : k < l.length) (j : Nat) (hj : j < 6) : (placesV p l)[k * 6 + j]? = (placeL (p + sizes (l.take k)) l[k])[j]? := by
  induction l generalizing p k with
  | nil => simp at hk
  | cons y l ih =>
    cases k with
    | zero => simp [placesV, sizes]; rw [List.getElem?_append_left (by simp [placeL]; omega)]
    | succ k =>
      have hk' : k < l.length := by simpa using hk
      rw [placesV, List.getElem?_append_right (by simp [placeL]; omega)]
      have := ih (p + szB y) k hk'
      rw [show (k + 1) * 6 + j - (placeL p y).length = k * 6 + j from by simp [placeL]; omega, this]
      simp [sizes, Nat.add_assoc]

structure Sg where
  d : Nat
  nm : Nam
  base : Nat
  every : Nat
  l : List Bt
  kept : Nat
def sgCells (G : Sg) (lv : Value) : Array Value := #[ptr G.d, str G.nm, .int .i64 G.base, .int .i64 G.every, lv, .int .i64 G.kept]
/-- A segment's numbers are in their ranges. -/
structure SgW (G : Sg) : Prop where
  ok : ∀ x, x ∈ G.l → BtOk x
  by_ : ∀ x, x ∈ G.l → BtBy x
  base : G.base ≤ 1099511627776
  len : G.l.length ≤ 1000000
  size : sizes G.l ≤ 1099511627776
/-- A segment's blocks, its own one ahead. -/
def SgM (s : Nat) (G : Sg) (A : Mm) : Prop := ∃ lv Al, A = (s, Obj.cells (sgCells G lv) 104 (0, 0)) :: Al ∧ RowM 112 6 lv G.l.length (placesV 0 G.l) Al
def Sg.end_ (G : Sg) : Int := match G.l.getLast? with | none => G.base | some x => x.b + x.r.length

/-- The cells of a row that is owned. -/
theorem RowM.cell {t : TypeId} {sz n : Nat} {v : Value} {xs : List Value} {A F : Mm} {w : World} {P : Pm} (h : RowM t sz v n xs A) (hH : Hp w P (A ++ F)) {j : Nat} {u : Value} (hj : xs[j]? = some u) :
    ∃ g c, v = .slice (some ⟨g, 0, none⟩) n c ∧ n ≤ c ∧ w.cell? ⟨g, j, none⟩ = some u := by
  obtain ⟨h1, h2⟩ := h
  rcases h2 with ⟨-, rfl, -⟩ | ⟨g, cap, cur, rfl, hc, -, hs, ht, rfl⟩
  · have := (List.getElem?_eq_some_iff.1 hj).1
    rw [h1] at this
    omega
  · refine ⟨g, cap, rfl, hc, ?_⟩
    refine hH.cell (b := g) (c := cur) (t := t) (fr := (0, 0)) (by simp) ?_
    rw [← ht, List.getElem?_take] at hj
    split at hj
    · simpa using hj
    · cases hj

def zeroPlace : List Value := [.int .i64 0, .int .i64 0, .int .i64 0, .int .i64 0, .int .i64 0, .int .i64 0]

section
variable {P : Pm} {s : Nat} {G : Sg} {A F : Mm} {w : World}

set_option maxRecDepth 100000 in
set_option maxHeartbeats 400000 in
theorem last_none (hG : SgM s G A) (h0 : G.l = []) (hH : Hp w P (A ++ F)) :
    Calls Tryz.prog 63 #[ptr s] w fun e w' => e = .returned (.tuple #[.agg #[.int .i64 0, .int .i64 0, .int .i64 0, .int .i64 0, .int .i64 0, .int .i64 0], .bool false]) ∧ Hp w' P (A ++ F) := by
  obtain ⟨lv, Al, rfl, hr⟩ := hG
  obtain ⟨la, lc, rfl⟩ := hr.shape
  rw [h0] at hr
  have c4 : w.cell? ⟨s, 4, none⟩ = some (.slice la 0 lc) := by
    have := (@Hp.cell _ _ _ hH s (sgCells G (.slice la G.l.length lc)) 104 (0, 0) (by simp)) (i := 4) rfl
    rw [h0] at this; exact this
  have hlt : s < w.heap.size := hH.lt (x := (s, Obj.cells (sgCells G (.slice la G.l.length lc)) 104 (0, 0))) (by simp)
  have hne : ¬ s = w.heap.size := by omega
  have HH := Lib.hid hH
  clear hH hr h0
  go_enter Tryz.func63, Tryz.ntmps63
  go_wp2_with fail
  exact bodyPost_ret (v := .tuple #[.agg #[.int .i64 0, .int .i64 0, .int .i64 0, .int .i64 0, .int .i64 0, .int .i64 0], .bool false]) (by simp [results, Tryz.results63, go_sem]) rfl ⟨rfl, (HH.out.alloc _).tail⟩

theorem SgM.last (hG : SgM s G A) (hH : Hp w P (A ++ F)) (l0 : List Bt) (x : Bt) (h : G.l = l0 ++ [x]) :
    ∃ g c, w.cell? ⟨s, 4, none⟩ = some (.slice (some ⟨g, 0, none⟩) (l0.length + 1) c) ∧ l0.length + 1 ≤ c ∧ s < w.heap.size ∧ g < w.heap.size ∧
      ∀ j u, (placeL (sizes l0) x)[j]? = some u → w.cell? ⟨g, l0.length * 6 + j, none⟩ = some u := by
  obtain ⟨lv, Al, rfl, hr⟩ := hG
  have hl : G.l.length = l0.length + 1 := by rw [h]; simp
  have h0 : (placesV 0 G.l)[l0.length * 6 + 0]? = (placeL (0 + sizes (G.l.take l0.length)) G.l[l0.length])[0]? := placesV_at 0 G.l l0.length (by omega) 0 (by omega)
  have hx : G.l[l0.length]'(by omega) = x := by simp [h]
  have ht : G.l.take l0.length = l0 := by rw [h]; simp
  have hH2 : Hp w P (Al ++ ((s, Obj.cells (sgCells G lv) 104 (0, 0)) :: F)) := Hp.mid (A := [(s, Obj.cells (sgCells G lv) 104 (0, 0))]) (B := Al) (C := F) hH
  have hall : ∀ j u, (placeL (sizes l0) x)[j]? = some u → (placesV 0 G.l)[l0.length * 6 + j]? = some u := fun j u hu => by
    have hj : j < 6 := by have := (List.getElem?_eq_some_iff.1 hu).1; simpa [placeL] using this
    rw [placesV_at 0 G.l l0.length (by omega) j hj, hx, ht, Nat.zero_add]; exact hu
  obtain ⟨g, c, rfl, hc, -⟩ := hr.cell hH2 (hall 0 _ rfl)
  have hlt : s < w.heap.size := hH.lt (x := (s, Obj.cells (sgCells G (.slice (some ⟨g, 0, none⟩) G.l.length c)) 104 (0, 0))) (by simp)
  refine ⟨g, c, ?_, by omega, hlt, ?_, fun j u hu => ?_⟩
  · rw [← hl]; exact (@Hp.cell _ _ _ hH s (sgCells G (.slice (some ⟨g, 0, none⟩) G.l.length c)) 104 (0, 0) (by simp)) (i := 4) rfl
  · obtain ⟨_, _, e, _, hcl⟩ := hr.cell hH2 (hall 0 _ rfl)
    cases e
    exact World.block_lt_of_cell? _ _ hcl
  · obtain ⟨_, _, e, _, hcl⟩ := hr.cell hH2 (hall j u hu)
    cases e
    exact hcl

set_option maxRecDepth 100000 in
set_option maxHeartbeats 400000 in
theorem last_some (hG : SgM s G A) (l0 : List Bt) (x : Bt) (h : G.l = l0 ++ [x]) (hn : l0.length ≤ 1000000) (hH : Hp w P (A ++ F)) :
    Calls Tryz.prog 63 #[ptr s] w fun e w' => e = .returned (.tuple #[.agg #[.int .i64 x.b, .int .i64 (x.b + x.r.length), .int .i64 (sizes l0), .int .i64 (szB x), .int .i64 x.e, .int .i64 (tmax x)], .bool true]) ∧ Hp w' P (A ++ F) := by
  obtain ⟨g, c, c4, hc, hs, hg, hp⟩ := hG.last hH l0 x h
  have p0 := hp 0 _ rfl
  have p1 := hp 1 _ rfl
  have p2 := hp 2 _ rfl
  have p3 := hp 3 _ rfl
  have p4 := hp 4 _ rfl
  have p5 := hp 5 _ rfl
  obtain ⟨k, hk⟩ : ∃ k, k = l0.length := ⟨_, rfl⟩
  obtain ⟨n, hnk⟩ : ∃ n, n = k + 1 := ⟨_, rfl⟩
  rw [← hk] at p0 p1 p2 p3 p4 p5 c4 hc hn
  rw [← hnk] at c4 hc
  rw [Nat.add_zero] at p0
  have hne : ¬ s = w.heap.size := by omega
  have hne2 : ¬ g = w.heap.size := by omega
  have w1 : IntKind.i64.wrap ((n : Int) - 1) = (k : Int) := by rw [show (n : Int) - 1 = (k : Int) from by omega]; exact IntWalk.i64_in _ (by omega)
  have w2 : (0 : Int) ≤ (k : Int) := by omega
  have w3 : (k : Int) < (n : Int) := by omega
  have w4 : ¬ (n : Int) = 0 := by omega
  have w5 : ¬ n = 0 := by omega
  have HH := Lib.hid hH
  have W1 := Lib.hid w1
  clear hH h hp hG w1 hnk hk
  go_enter Tryz.func63, Tryz.ntmps63
  go_wp2_with fail
  have w1 := W1.out
  go_region_held3 (fun w' => w'.cell? ⟨s, 4, none⟩ = some (.slice (some ⟨g, 0, none⟩) n c) ∧ w'.cell? ⟨g, k * 6, none⟩ = some (.int .i64 x.b) ∧ w'.cell? ⟨g, k * 6 + 1, none⟩ = some (.int .i64 (x.b + x.r.length)) ∧ w'.cell? ⟨g, k * 6 + 2, none⟩ = some (.int .i64 (sizes l0)) ∧
      w'.cell? ⟨g, k * 6 + 3, none⟩ = some (.int .i64 (szB x)) ∧ w'.cell? ⟨g, k * 6 + 4, none⟩ = some (.int .i64 x.e) ∧ w'.cell? ⟨g, k * 6 + 5, none⟩ = some (.int .i64 (tmax x)))
    (go_keep) (fail)
  go_wp2_with fail
  exact bodyPost_ret (v := .tuple #[.agg #[.int .i64 x.b, .int .i64 (x.b + x.r.length), .int .i64 (sizes l0), .int .i64 (szB x), .int .i64 x.e, .int .i64 (tmax x)], .bool true]) (by simp [results, Tryz.results63, go_sem]) rfl ⟨rfl, (HH.out.alloc _).tail.drew⟩
end

theorem lastCases (l : List Bt) : l = [] ∨ ∃ l0 x, l = l0 ++ [x] := by
  rcases List.eq_nil_or_concat l with h | ⟨l0, x, h⟩
  · exact .inl h
  · exact .inr ⟨l0, x, by simpa using h⟩

end Go.Proofs.YtncjffkpkmjgkaaGreatDoor.Sg

/-! Gb -/
namespace Go.Proofs.YtncjffkpkmjgkaaGreatDoor.Sg
open Go.RowKit Er Go.Maps

section
variable {P : Pm} {s : Nat} {G : Sg} {A F : Mm} {w : World}

theorem SgM.cells (hG : SgM s G A) (hH : Hp w P (A ++ F)) : ∃ lv, w.cell? ⟨s, 0, none⟩ = some (ptr G.d) ∧ w.cell? ⟨s, 1, none⟩ = some (str G.nm) ∧ w.cell? ⟨s, 2, none⟩ = some (.int .i64 G.base) ∧ w.cell? ⟨s, 3, none⟩ = some (.int .i64 G.every) ∧
    w.cell? ⟨s, 4, none⟩ = some lv ∧ w.cell? ⟨s, 5, none⟩ = some (.int .i64 G.kept) ∧ (∀ i, w.frozen? ⟨s, i, none⟩ = false) ∧ s < w.heap.size := by
  obtain ⟨lv, Al, rfl, hr⟩ := hG
  have hm : (s, Obj.cells (sgCells G lv) 104 (0, 0)) ∈ (s, Obj.cells (sgCells G lv) 104 (0, 0)) :: Al ++ F := by simp
  exact ⟨lv, hH.cell hm rfl, hH.cell hm rfl, hH.cell hm rfl, hH.cell hm rfl, hH.cell hm rfl, hH.cell hm rfl, hH.frozen hm, hH.lt hm⟩

theorem SgW.app {l0 : List Bt} {x : Bt} (h : SgW G) (hl : G.l = l0 ++ [x]) : l0.length ≤ 1000000 ∧ BtOk x ∧ BtBy x ∧ sizes l0 + szB x ≤ 1099511627776 := by
  have h1 := h.len
  have h2 := h.size
  rw [hl, sizes_app] at h2
  rw [hl] at h1
  refine ⟨by simp at h1; omega, h.ok x (by rw [hl]; simp), h.by_ x (by rw [hl]; simp), by simpa [sizes] using h2⟩

set_option maxRecDepth 100000 in
set_option maxHeartbeats 400000 in
theorem end_any (hG : SgM s G A) (hW : SgW G) (hH : Hp w P (A ++ F)) :
    Calls Tryz.prog 17 #[ptr s] w fun e w' => e = .returned (.int .i64 G.end_) ∧ Hp w' P (A ++ F) := by
  rcases lastCases G.l with h | ⟨l0, x, h⟩
  · have hE : Hid (G.end_ = G.base) := by simp [Hid, Sg.end_, h]
    have HG := Lib.hid hG
    have H0 := Lib.hid h
    clear hG h
    go_enter Tryz.func17, Tryz.ntmps17
    go_wp2_with fail
    refine (last_none HG.out H0.out hH).mono ?_
    rintro e w1 ⟨rfl, hH1⟩
    obtain ⟨lv, -, -, c2, -, -, -, -, hs⟩ := HG.out.cells hH1
    have H1 := Lib.hid hH1
    clear hH1
    go_wp2_with fail
    go_ret
    exact ⟨by rw [hE.out]; rfl, (H1.out.alloc _).tail⟩
  · obtain ⟨hn, hok, -, -⟩ := hW.app h
    have hE : Hid (G.end_ = x.b + x.r.length) := by simp [Hid, Sg.end_, h]
    have H0 := Lib.hid h
    clear h
    go_enter Tryz.func17, Tryz.ntmps17
    go_wp2_with fail
    refine (last_some hG l0 x H0.out hn hH).mono ?_
    rintro e w1 ⟨rfl, hH1⟩
    have H1 := Lib.hid hH1
    clear hH1
    go_wp2_with fail
    go_ret
    exact ⟨by rw [hE.out]; rfl, (H1.out.alloc _).tail⟩

set_option maxRecDepth 100000 in
set_option maxHeartbeats 400000 in
theorem ssize_any (hG : SgM s G A) (hW : SgW G) (hH : Hp w P (A ++ F)) :
    Calls Tryz.prog 18 #[ptr s] w fun e w' => e = .returned (.int .i64 (sizes G.l)) ∧ Hp w' P (A ++ F) := by
  rcases lastCases G.l with h | ⟨l0, x, h⟩
  · have hE : Hid (sizes G.l = 0) := by simp [Hid, sizes, h]
    have HG := Lib.hid hG
    have H0 := Lib.hid h
    clear hG h
    go_enter Tryz.func18, Tryz.ntmps18
    go_wp2_with fail
    refine (last_none HG.out H0.out hH).mono ?_
    rintro e w1 ⟨rfl, hH1⟩
    have H1 := Lib.hid hH1
    clear hH1
    go_wp2_with fail
    go_ret
    exact ⟨by rw [hE.out]; rfl, (H1.out.alloc _).tail⟩
  · obtain ⟨hn, hok, -, hsz⟩ := hW.app h
    have hE : Hid (((sizes G.l : Nat) : Int) = (sizes l0 : Int) + (szB x : Int)) := by simp [Hid, h, sizes]
    have H0 := Lib.hid h
    clear h
    go_enter Tryz.func18, Tryz.ntmps18
    go_wp2_with fail
    refine (last_some hG l0 x H0.out hn hH).mono ?_
    rintro e w1 ⟨rfl, hH1⟩
    have H1 := Lib.hid hH1
    clear hH1
    go_wp2_with fail
    go_ret
    exact ⟨by rw [hE.out]; rfl, (H1.out.alloc _).tail⟩

theorem sbase_any (hG : SgM s G A) (hH : Hp w P (A ++ F)) :
    Calls Tryz.prog 66 #[ptr s] w fun e w' => e = .returned (.int .i64 G.base) ∧ w = w' := by
  obtain ⟨lv, -, -, c2, -, -, -, -, hs⟩ := hG.cells hH
  clear hH
  go_enter Tryz.func66, Tryz.ntmps66
  go_wp2_with fail
  go_ret
  exact ⟨rfl, rfl⟩

end

/-- The last batch's epoch. -/
def Sg.lastE (G : Sg) : Int := match G.l.getLast? with | none => 0 | some y => y.e
/-- Whether a batch may stand behind. -/
def Sg.foll (G : Sg) (x : Bt) : Bool := decide (x.b = G.end_) && decide (G.lastE ≤ x.e)

section
variable {P : Pm} {s : Nat} {G : Sg} {A F : Mm} {w : World}

theorem last_any (hG : SgM s G A) (hW : SgW G) (hH : Hp w P (A ++ F)) : ∃ (a b c d t : Int) (q : Bool),
    Calls Tryz.prog 63 #[ptr s] w fun e w' => e = .returned (.tuple #[.agg #[.int .i64 a, .int .i64 b, .int .i64 c, .int .i64 d, .int .i64 G.lastE, .int .i64 t], .bool q]) ∧ Hp w' P (A ++ F) := by
  rcases lastCases G.l with h | ⟨l0, x, h⟩
  · have hE : G.lastE = 0 := by simp [Sg.lastE, h]
    rw [hE]
    exact ⟨0, 0, 0, 0, 0, false, last_none hG h hH⟩
  · obtain ⟨hn, hok, -, -⟩ := hW.app h
    have hE : G.lastE = x.e := by simp [Sg.lastE, h]
    rw [hE]
    exact ⟨_, _, _, _, _, true, last_some hG l0 x h hn hH⟩

set_option maxRecDepth 100000 in
set_option maxHeartbeats 400000 in
theorem follows_any (hG : SgM s G A) (hW : SgW G) (x : Bt) (v : Value) (hv : Pers P (fun w => BtV w v x)) (hH : Hp w P (A ++ F)) :
    Calls Tryz.prog 59 #[ptr s, v] w fun e w' => e = .returned (.bool (G.foll x)) ∧ Hp w' P (A ++ F) := by
  obtain ⟨rs, rfl, -⟩ := hH.use hv
  have hH1 := hH.alloc (.cells #[.int .i64 x.b, .int .i64 x.e, rs] 38)
  have hrs : rs.oneCell' = true := by
    obtain ⟨rs', h1, h2⟩ := hH.use hv
    simp at h1; subst h1
    obtain ⟨a, c, rfl⟩ := h2.shape; rfl
  have hH2 : Hp (w.alloc (.cells #[.int .i64 x.b, .int .i64 x.e, rs] 38)) P (A ++ ((w.heap.size, .cells #[.int .i64 x.b, .int .i64 x.e, rs] 38 (0, 0)) :: F)) :=
    Hp.mid (A := [(w.heap.size, Obj.cells #[.int .i64 x.b, .int .i64 x.e, rs] 38 (0, 0))]) (B := A) (C := F) hH1
  obtain ⟨a, b, c, d, t, q, hlast⟩ := last_any hG hW hH2
  have HL := Lib.hid hlast
  clear hH1 hlast hH2 hH hv
  go_enter Tryz.func59, Tryz.ntmps59
  go_wp2_with fail
  refine HL.out.mono ?_
  rintro e w1 ⟨rfl, hH1⟩
  have hb0 : w1.cell? ⟨w.heap.size, 0, none⟩ = some (.int .i64 x.b) := (@Hp.cell _ _ _ hH1 w.heap.size #[.int .i64 x.b, .int .i64 x.e, rs] 38 (0, 0) (by simp)) rfl
  have hb1 : w1.cell? ⟨w.heap.size, 1, none⟩ = some (.int .i64 x.e) := (@Hp.cell _ _ _ hH1 w.heap.size #[.int .i64 x.b, .int .i64 x.e, rs] 38 (0, 0) (by simp)) rfl
  have hlt : w.heap.size < w1.heap.size := hH1.lt (x := (w.heap.size, Obj.cells #[.int .i64 x.b, .int .i64 x.e, rs] 38 (0, 0))) (by simp)
  have hne : ¬ w.heap.size = w1.heap.size := by omega
  have hA : Hid (Hp (w1.alloc (.cells #[.int .i64 a, .int .i64 b, .int .i64 c, .int .i64 d, .int .i64 G.lastE, .int .i64 t] 112)) P (A ++ ([(w1.heap.size, .cells #[.int .i64 a, .int .i64 b, .int .i64 c, .int .i64 d, .int .i64 G.lastE, .int .i64 t] 112 (0, 0)), (w.heap.size, .cells #[.int .i64 x.b, .int .i64 x.e, rs] 38 (0, 0))] ++ F))) :=
    Hp.mid (A := [_]) (B := A) (hH1.alloc _)
  clear hH1
  obtain ⟨en, hen⟩ : ∃ en, en = G.end_ := ⟨_, rfl⟩
  have HEN := Lib.hid hen
  obtain ⟨le, hle⟩ : ∃ le, le = G.lastE := ⟨_, rfl⟩
  have HLE := Lib.hid hle
  rw [← hle] at hA ⊢
  clear hen hle
  go_wp2_with fail
  refine wp_region_hp (by kernel_rfl) (by decide) P _ hA.out (fun i _ v => match i with
    | 0 => v = ptr w.heap.size | 1 => v = .int .i64 x.b | 2 => v = ptr s | 3 => v = .int .i64 en | 4 => v = .bool (x.b == en) | 5 => v = .bool (x.b == en)
    | 6 => x.b = en → v = .pointer (some ⟨w.heap.size, 1, none⟩) | 7 => x.b = en → v = .int .i64 x.e | 8 => x.b = en → v = .pointer (some ⟨w1.heap.size, 4, none⟩) | 9 => x.b = en → v = .int .i64 le
    | 10 => x.b = en → v = .bool (decide (le ≤ x.e)) | 11 => v = .bool (G.foll x) | 12 => v = .bool (G.foll x) | _ => True) (by intro i P P' v _ h; exact h) ?_ ?_
  · intro i o ho u w2 P2 hs2 hH2 hp K hK
    rcases i with _ | _ | _ | _ | _ | _ | _ | _ | _ | _ | _ | _ | _ | i
    · cases ho
      simp only [frOf, Act.put, List.setIfInBounds_toArray, List.set_cons_zero, List.set_cons_succ, Nat.zero_add, Nat.reduceAdd] at hK ⊢
      go_simp
      exact hK _ w2 P2 (Sub.refl _) hH2 rfl
    · cases ho
      simp only [frOf, Act.put, List.setIfInBounds_toArray, List.set_cons_zero, List.set_cons_succ, Nat.zero_add, Nat.reduceAdd] at hK ⊢
      have h0 : u 0 = ptr w.heap.size := hp ⟨0, .data⟩ (by simp) rfl
      simp only [h0] at hK ⊢
      have c0 : w2.cell? ⟨w.heap.size, 0, none⟩ = some (.int .i64 x.b) := (@Hp.cell _ _ _ hH2 w.heap.size #[.int .i64 x.b, .int .i64 x.e, rs] 38 (0, 0) (by simp)) rfl
      go_simp
      exact hK _ w2 P2 (Sub.refl _) hH2 rfl
    · cases ho
      simp only [frOf, Act.put, List.setIfInBounds_toArray, List.set_cons_zero, List.set_cons_succ, Nat.zero_add, Nat.reduceAdd] at hK ⊢
      go_simp
      exact hK _ w2 P2 (Sub.refl _) hH2 rfl
    · cases ho
      simp only [frOf, Act.put, List.setIfInBounds_toArray, List.set_cons_zero, List.set_cons_succ, Nat.zero_add, Nat.reduceAdd] at hK ⊢
      have h2 : u 2 = ptr s := hp ⟨2, .data⟩ (by simp) rfl
      simp only [h2] at hK ⊢
      go_simp
      refine (end_any hG hW hH2).mono ?_
      rintro e w3 ⟨rfl, hH3⟩
      exact hK _ w3 P2 (Sub.refl _) hH3 (by rw [HEN.out])
    · cases ho
      simp only [frOf, Act.put, List.setIfInBounds_toArray, List.set_cons_zero, List.set_cons_succ, Nat.zero_add, Nat.reduceAdd] at hK ⊢
      have h1 : u 1 = .int .i64 x.b := hp ⟨1, .data⟩ (by simp) rfl
      have h3 : u 3 = .int .i64 en := hp ⟨3, .data⟩ (by simp) rfl
      simp only [h1, h3] at hK ⊢
      go_simp
      exact hK _ w2 P2 (Sub.refl _) hH2 rfl
    · cases ho
      simp only [frOf, Act.put, List.setIfInBounds_toArray, List.set_cons_zero, List.set_cons_succ, Nat.zero_add, Nat.reduceAdd] at hK ⊢
      have h4 : u 4 = .bool (x.b == en) := hp ⟨4, .data⟩ (by simp) rfl
      simp only [h4] at hK ⊢
      go_simp
      exact hK _ w2 P2 (Sub.refl _) hH2 rfl
    · cases ho
      have h5 : u 5 = .bool (x.b == en) := hp ⟨5, .guard⟩ (by simp) rfl
      simp only [frOf, Act.put, List.setIfInBounds_toArray, List.set_cons_zero, List.set_cons_succ, Nat.zero_add, Nat.reduceAdd] at hK ⊢
      by_cases e : x.b = en
      · have e5 : (x.b == en) = true := by simp [e]
        rw [e5] at h5
        simp only [h5] at hK ⊢
        clear e e5
        go_simp
        exact hK _ w2 P2 (Sub.refl _) hH2 (fun _ => rfl)
      · have e5 : (x.b == en) = false := by simp [e]
        rw [e5] at h5
        simp only [h5]
        exact (fun h => absurd h e)
    · cases ho
      have h5 : u 5 = .bool (x.b == en) := hp ⟨5, .guard⟩ (by simp) rfl
      simp only [frOf, Act.put, List.setIfInBounds_toArray, List.set_cons_zero, List.set_cons_succ, Nat.zero_add, Nat.reduceAdd] at hK ⊢
      by_cases e : x.b = en
      · have e5 : (x.b == en) = true := by simp [e]
        rw [e5] at h5
        have h6 : u 6 = .pointer (some ⟨w.heap.size, 1, none⟩) := (hp ⟨6, .data⟩ (by simp) rfl : x.b = en → _) e
        simp only [h6] at hK ⊢
        have c1 : w2.cell? ⟨w.heap.size, 1, none⟩ = some (.int .i64 x.e) := (@Hp.cell _ _ _ hH2 w.heap.size #[.int .i64 x.b, .int .i64 x.e, rs] 38 (0, 0) (by simp)) rfl
        simp only [h5] at hK ⊢
        clear e e5
        go_simp
        exact hK _ w2 P2 (Sub.refl _) hH2 (fun _ => rfl)
      · have e5 : (x.b == en) = false := by simp [e]
        rw [e5] at h5
        simp only [h5]
        exact (fun h => absurd h e)
    · cases ho
      have h5 : u 5 = .bool (x.b == en) := hp ⟨5, .guard⟩ (by simp) rfl
      simp only [frOf, Act.put, List.setIfInBounds_toArray, List.set_cons_zero, List.set_cons_succ, Nat.zero_add, Nat.reduceAdd] at hK ⊢
      by_cases e : x.b = en
      · have e5 : (x.b == en) = true := by simp [e]
        rw [e5] at h5
        simp only [h5] at hK ⊢
        clear e e5
        go_simp
        exact hK _ w2 P2 (Sub.refl _) hH2 (fun _ => rfl)
      · have e5 : (x.b == en) = false := by simp [e]
        rw [e5] at h5
        simp only [h5]
        exact (fun h => absurd h e)
    · cases ho
      have h5 : u 5 = .bool (x.b == en) := hp ⟨5, .guard⟩ (by simp) rfl
      simp only [frOf, Act.put, List.setIfInBounds_toArray, List.set_cons_zero, List.set_cons_succ, Nat.zero_add, Nat.reduceAdd] at hK ⊢
      by_cases e : x.b = en
      · have e5 : (x.b == en) = true := by simp [e]
        rw [e5] at h5
        have h8 : u 8 = .pointer (some ⟨w1.heap.size, 4, none⟩) := (hp ⟨8, .data⟩ (by simp) rfl : x.b = en → _) e
        simp only [h8] at hK ⊢
        have c1 : w2.cell? ⟨w1.heap.size, 4, none⟩ = some (.int .i64 le) := (@Hp.cell _ _ _ hH2 w1.heap.size #[.int .i64 a, .int .i64 b, .int .i64 c, .int .i64 d, .int .i64 le, .int .i64 t] 112 (0, 0) (by simp)) rfl
        simp only [h5] at hK ⊢
        clear e e5
        go_simp
        exact hK _ w2 P2 (Sub.refl _) hH2 (fun _ => rfl)
      · have e5 : (x.b == en) = false := by simp [e]
        rw [e5] at h5
        simp only [h5]
        exact (fun h => absurd h e)
    · cases ho
      have h5 : u 5 = .bool (x.b == en) := hp ⟨5, .guard⟩ (by simp) rfl
      simp only [frOf, Act.put, List.setIfInBounds_toArray, List.set_cons_zero, List.set_cons_succ, Nat.zero_add, Nat.reduceAdd] at hK ⊢
      by_cases e : x.b = en
      · have e5 : (x.b == en) = true := by simp [e]
        rw [e5] at h5
        have h7 : u 7 = .int .i64 x.e := (hp ⟨7, .data⟩ (by simp) rfl : x.b = en → _) e
        have h9 : u 9 = .int .i64 le := (hp ⟨9, .data⟩ (by simp) rfl : x.b = en → _) e
        simp only [h7, h9] at hK ⊢
        simp only [h5] at hK ⊢
        clear e e5
        go_simp
        exact hK _ w2 P2 (Sub.refl _) hH2 (fun _ => rfl)
      · have e5 : (x.b == en) = false := by simp [e]
        rw [e5] at h5
        simp only [h5]
        exact (fun h => absurd h e)
    · cases ho
      have h5 : u 5 = .bool (x.b == en) := hp ⟨5, .data⟩ (by simp) rfl
      simp only [frOf, Act.put, List.setIfInBounds_toArray, List.set_cons_zero, List.set_cons_succ, Nat.zero_add, Nat.reduceAdd] at hK ⊢
      by_cases e : x.b = en
      · have h10 : u 10 = .bool (decide (le ≤ x.e)) := (hp ⟨10, .data⟩ (by simp) rfl : x.b = en → _) e
        have HF : Hid (Value.bool (decide (le ≤ x.e)) = .bool (G.foll x)) := by simp [Hid, Sg.foll, ← HEN.out, ← HLE.out, e]
        have e5 : (x.b == en) = true := by simp [e]
        rw [e5] at h5
        simp only [h5, h10] at hK ⊢
        clear e e5
        go_simp
        exact hK _ w2 P2 (Sub.refl _) hH2 HF.out
      · have HF : Hid (Value.bool false = .bool (G.foll x)) := by simp [Hid, Sg.foll, ← HEN.out, e]
        have e5 : (x.b == en) = false := by simp [e]
        rw [e5] at h5
        simp only [h5] at hK ⊢
        clear e e5
        go_simp
        exact hK _ w2 P2 (Sub.refl _) hH2 HF.out
    · cases ho
      have h11 : u 11 = .bool (G.foll x) := hp ⟨11, .data⟩ (by simp) rfl
      simp only [frOf, Act.put, List.setIfInBounds_toArray, List.set_cons_zero, List.set_cons_succ, Nat.zero_add, Nat.reduceAdd] at hK ⊢
      simp only [h11] at hK ⊢
      go_simp
      exact hK _ w2 P2 (Sub.refl _) hH2 rfl
    · exact absurd ho (by simp)
  · intro u w2 P2 hs2 hH2 hR
    have h12 : u 12 = .bool (G.foll x) := hR 12 (by decide)
    simp only [frOf, List.setIfInBounds_toArray, List.set_cons_zero, List.set_cons_succ, Nat.zero_add, Nat.reduceAdd]
    simp only [h12]
    go_wp2_with fail
    go_ret
    exact ⟨rfl, (Hp.drop (M := [(w1.heap.size, Obj.cells #[.int .i64 a, .int .i64 b, .int .i64 c, .int .i64 d, .int .i64 le, .int .i64 t] 112 (0, 0)), (w.heap.size, Obj.cells #[.int .i64 x.b, .int .i64 x.e, rs] 38 (0, 0))]) (Hp.mid hH2)).weaken hs2⟩
end

end Go.Proofs.YtncjffkpkmjgkaaGreatDoor.Sg

/-! Gc -/
namespace Go.Proofs.YtncjffkpkmjgkaaGreatDoor.Sg
open Go.RowKit Er Go.Maps

theorem infoPl : (Tryz.prog.info? 112).map (fun i => (i.zero, i.size, i.bytes)) = some (some (.agg #[.int .i64 0, .int .i64 0, .int .i64 0, .int .i64 0, .int .i64 0, .int .i64 0]), 6, 48) := by kernel_rfl
def Sg.push (G : Sg) (x : Bt) : Sg := { G with l := G.l ++ [x] }
theorem sizeB_ok (x : Bt) (h : BtOk x) : sizeB x = szB x := by unfold sizeB szB; rw [if_pos h.code]

section
variable {S : List Nat} {E : Nat → Addr} {B : Nat} {P : Pm} {s : Nat} {G : Sg} {A F : Mm} {w : World}

set_option maxRecDepth 100000 in
set_option maxHeartbeats 4000000 in
theorem sput_any (C : Ctx S E B P) (hG : SgM s G A) (hW : SgW G) (x : Bt) (hok : BtOk x) (hby : BtBy x) (v : Value) (hv : Pers P (fun w => BtV w v x)) (hH : Hp w P (A ++ F)) :
    Calls Tryz.prog 60 #[ptr s, v] w fun e w' => e = .returned (.tuple #[]) ∧ ∃ A', SgM s (G.push x) A' ∧ Hp w' P (A' ++ F) := by
  obtain ⟨rs, hrs, -⟩ := hH.use hv
  have hro : rs.oneCell' = true := by
    obtain ⟨rs', h1, h2⟩ := hH.use hv
    rw [hrs] at h1
    simp at h1; subst h1
    obtain ⟨a, c, rfl⟩ := h2.shape; rfl
  subst hrs
  obtain ⟨lv, Al, hA, hr⟩ := hG
  have hG' : SgM s G A := ⟨lv, Al, hA, hr⟩
  subst hA
  obtain ⟨la, lc, rfl⟩ := hr.shape
  have hH0 : Hp (w.alloc (.cells #[.int .i64 x.b, .int .i64 x.e, rs] 38)) P (((s, Obj.cells (sgCells G (.slice la G.l.length lc)) 104 (0, 0)) :: Al) ++ ((w.heap.size, .cells #[.int .i64 x.b, .int .i64 x.e, rs] 38 (0, 0)) :: F)) :=
    Hp.mid (A := [(w.heap.size, Obj.cells #[.int .i64 x.b, .int .i64 x.e, rs] 38 (0, 0))]) (B := _ :: Al) (C := F) (hH.alloc _)
  have HSEG : ∀ (w' : World) (P' : Pm), Hp w' P' (((s, Obj.cells (sgCells G (.slice la G.l.length lc)) 104 (0, 0)) :: Al) ++ ((w.heap.size, .cells #[.int .i64 x.b, .int .i64 x.e, rs] 38 (0, 0)) :: F)) →
      w'.cell? ⟨s, 4, none⟩ = some (.slice la G.l.length lc) ∧ w'.cell? ⟨w.heap.size, 0, none⟩ = some (.int .i64 x.b) ∧ w'.cell? ⟨w.heap.size, 1, none⟩ = some (.int .i64 x.e) ∧ w'.cell? ⟨w.heap.size, 2, none⟩ = some rs := fun w' P' h =>
    ⟨(@Hp.cell _ _ _ h s (sgCells G (.slice la G.l.length lc)) 104 (0, 0) (by simp)) rfl, (@Hp.cell _ _ _ h w.heap.size #[.int .i64 x.b, .int .i64 x.e, rs] 38 (0, 0) (by simp)) rfl,
      (@Hp.cell _ _ _ h w.heap.size #[.int .i64 x.b, .int .i64 x.e, rs] 38 (0, 0) (by simp)) rfl, (@Hp.cell _ _ _ h w.heap.size #[.int .i64 x.b, .int .i64 x.e, rs] 38 (0, 0) (by simp)) rfl⟩
  have HS := Lib.hid HSEG
  have hb1 := hok.b1
  have hb0 := hok.b0
  have hn64 := hok.n64
  have hgl : Hid (G.l.length ≤ 1000000000) := by have := hW.len; simp only [Hid]; omega
  have hsl : s < w.heap.size := hH.lt (x := (s, Obj.cells (sgCells G (.slice la G.l.length lc)) 104 (0, 0))) (by simp)
  have hne : ¬ s = w.heap.size := by omega
  obtain ⟨i4, i0, i1, i2⟩ := HSEG _ _ hH0
  have c4 : w.cell? ⟨s, 4, none⟩ = some (.slice la G.l.length lc) := (@Hp.cell _ _ _ hH s (sgCells G (.slice la G.l.length lc)) 104 (0, 0) (by simp)) rfl
  have H0 := Lib.hid hH0
  have HV := Lib.hid hv
  have HOK := Lib.hid hok
  have HR := Lib.hid hr
  have HG := Lib.hid hG'
  clear hH hH0 hv hr hG' hok HSEG i4 i0 i1 i2
  go_enter Tryz.func60, Tryz.ntmps60
  go_wp2_with fail
  refine wp_region_ph (by kernel_rfl) (by decide) 19 22 (by kernel_rfl) ⟨by decide, by decide⟩ (by decide) _ (fun b P w2 v => match b with | 0 => Hp w2 P ((s, Obj.cells (sgCells G (.slice la G.l.length lc)) 104 (0, 0)) :: Al ++ ((w.heap.size, Obj.cells #[.int .i64 x.b, .int .i64 x.e, rs] 38 (0, 0)) :: F)) | 1 => ∃ g cap Al', v = .slice (some ⟨g, 0, none⟩) (G.l.length + 1) cap ∧ RowM 112 6 v (G.l.length + 1) (placesV 0 G.l ++ #[.int .i64 x.b, .int .i64 (x.b + x.r.length), .int .i64 (sizes G.l), .int .i64 (sizeB x), .int .i64 x.e, .int .i64 (tmax x)].toList) Al' ∧ Hp w2 P (Al' ++ ((s, Obj.cells (sgCells G (.slice la G.l.length lc)) 104 (0, 0)) :: (w.heap.size, Obj.cells #[.int .i64 x.b, .int .i64 x.e, rs] 38 (0, 0)) :: F)) | _ => ∃ Al', RowM 112 6 v (G.l.length + 1) (placesV 0 G.l ++ #[.int .i64 x.b, .int .i64 (x.b + x.r.length), .int .i64 (sizes G.l), .int .i64 (sizeB x), .int .i64 x.e, .int .i64 (tmax x)].toList) Al' ∧ Hp w2 P (Al' ++ ((s, Obj.cells (sgCells G v) 104 (0, 0)) :: (w.heap.size, Obj.cells #[.int .i64 x.b, .int .i64 x.e, rs] 38 (0, 0)) :: F))) (fun v => H0.out.drew) (fun i P v => match i with | 0 => v = ptr s | 1 => v = ptr s | 2 => v = ptr s | 3 => v = .pointer (some ⟨s, 4, none⟩) | 4 => v = .slice la G.l.length lc | 5 => v = ptr w.heap.size | 6 => v = .int .i64 x.b | 7 => v = .agg #[.int .i64 x.b, .int .i64 x.e, rs] | 8 => v = .int .i64 (x.b + x.r.length) | 9 => v = ptr s | 10 => v = .int .i64 (sizes G.l) | 11 => v = .agg #[.int .i64 x.b, .int .i64 x.e, rs] | 12 => v = .int .i64 (sizeB x) | 13 => v = .pointer (some ⟨w.heap.size, 1, none⟩) | 14 => v = .int .i64 x.e | 15 => v = .agg #[.int .i64 x.b, .int .i64 x.e, rs] | 16 => v = .int .i64 (tmax x) | 17 => v = .agg #[.int .i64 x.b, .int .i64 (x.b + x.r.length), .int .i64 (sizes G.l), .int .i64 (sizeB x), .int .i64 x.e, .int .i64 (tmax x)] | 18 => ∃ b, v = .slice (some ⟨b, 0, none⟩) 1 1 ∧ P.m b = some (Obj.cells #[.int .i64 x.b, .int .i64 (x.b + x.r.length), .int .i64 (sizes G.l), .int .i64 (sizeB x), .int .i64 x.e, .int .i64 (tmax x)] 112 (0, 0)) | 19 => True | 20 => v = ptr s | 21 => v = .pointer (some ⟨s, 4, none⟩) | 22 => True | _ => True) (by intro i P P' v hs h; rcases i with _ | _ | _ | _ | _ | _ | _ | _ | _ | _ | _ | _ | _ | _ | _ | _ | _ | _ | _ | _ | _ | _ | _ | i <;> first | exact h | (obtain ⟨b, h1, h2⟩ := h; exact ⟨b, h1, hs.m _ _ h2⟩)) ?_ ?_
  · intro i o ho b u w2 P2 hs2 hJ hp q1 q2 q3 q4 K hK
    rcases i with _ | _ | _ | _ | _ | _ | _ | _ | _ | _ | _ | _ | _ | _ | _ | _ | _ | _ | _ | _ | _ | _ | _ | i
    · cases ho
      simp only [frOf, Act.put, List.setIfInBounds_toArray, List.set_cons_zero, List.set_cons_succ, Nat.zero_add, Nat.reduceAdd] at hK ⊢
      go_simp
      exact hK _ w2 P2 (Sub.refl _) hJ rfl
    · cases ho
      simp only [frOf, Act.put, List.setIfInBounds_toArray, List.set_cons_zero, List.set_cons_succ, Nat.zero_add, Nat.reduceAdd] at hK ⊢
      go_simp
      exact hK _ w2 P2 (Sub.refl _) hJ rfl
    · cases ho
      have h1 : u 1 = ptr s := hp ⟨1, .data⟩ (by simp) rfl
      simp only [frOf, Act.put, List.setIfInBounds_toArray, List.set_cons_zero, List.set_cons_succ, Nat.zero_add, Nat.reduceAdd] at hK ⊢
      simp only [h1] at hK ⊢
      go_simp
      exact hK _ w2 P2 (Sub.refl _) hJ rfl
    · cases ho
      have h2 : u 2 = ptr s := hp ⟨2, .data⟩ (by simp) rfl
      simp only [frOf, Act.put, List.setIfInBounds_toArray, List.set_cons_zero, List.set_cons_succ, Nat.zero_add, Nat.reduceAdd] at hK ⊢
      simp only [h2] at hK ⊢
      go_simp
      exact hK _ w2 P2 (Sub.refl _) hJ rfl
    · cases ho
      have h3 : u 3 = .pointer (some ⟨s, 4, none⟩) := hp ⟨3, .data⟩ (by simp) rfl
      simp only [frOf, Act.put, List.setIfInBounds_toArray, List.set_cons_zero, List.set_cons_succ, Nat.zero_add, Nat.reduceAdd] at hK ⊢
      simp only [h3] at hK ⊢
      obtain rfl : b = 0 := ph0 (fun h => nomatch ((q1 h).1.symm.trans (by kernel_rfl : _ = true)))
      have hH2 : Hp w2 P2 ((s, Obj.cells (sgCells G (.slice la G.l.length lc)) 104 (0, 0)) :: Al ++ ((w.heap.size, Obj.cells #[.int .i64 x.b, .int .i64 x.e, rs] 38 (0, 0)) :: F)) := hJ
      obtain ⟨k4, kb0, kb1, kb2⟩ := HS.out w2 P2 hH2
      go_simp
      exact hK _ w2 P2 (Sub.refl _) hH2 rfl
    · cases ho
      simp only [frOf, Act.put, List.setIfInBounds_toArray, List.set_cons_zero, List.set_cons_succ, Nat.zero_add, Nat.reduceAdd] at hK ⊢
      go_simp
      exact hK _ w2 P2 (Sub.refl _) hJ rfl
    · cases ho
      have h5 : u 5 = ptr w.heap.size := hp ⟨5, .data⟩ (by simp) rfl
      simp only [frOf, Act.put, List.setIfInBounds_toArray, List.set_cons_zero, List.set_cons_succ, Nat.zero_add, Nat.reduceAdd] at hK ⊢
      simp only [h5] at hK ⊢
      obtain rfl : b = 0 := ph0 (fun h => nomatch ((q1 h).1.symm.trans (by kernel_rfl : _ = true)))
      have hH2 : Hp w2 P2 ((s, Obj.cells (sgCells G (.slice la G.l.length lc)) 104 (0, 0)) :: Al ++ ((w.heap.size, Obj.cells #[.int .i64 x.b, .int .i64 x.e, rs] 38 (0, 0)) :: F)) := hJ
      obtain ⟨k4, kb0, kb1, kb2⟩ := HS.out w2 P2 hH2
      go_simp
      exact hK _ w2 P2 (Sub.refl _) hH2 rfl
    · cases ho
      simp only [frOf, Act.put, List.setIfInBounds_toArray, List.set_cons_zero, List.set_cons_succ, Nat.zero_add, Nat.reduceAdd] at hK ⊢
      obtain rfl : b = 0 := ph0 (fun h => nomatch ((q1 h).1.symm.trans (by kernel_rfl : _ = true)))
      have hH2 : Hp w2 P2 ((s, Obj.cells (sgCells G (.slice la G.l.length lc)) 104 (0, 0)) :: Al ++ ((w.heap.size, Obj.cells #[.int .i64 x.b, .int .i64 x.e, rs] 38 (0, 0)) :: F)) := hJ
      obtain ⟨k4, kb0, kb1, kb2⟩ := HS.out w2 P2 hH2
      go_simp
      exact hK _ w2 P2 (Sub.refl _) hH2 rfl
    · cases ho
      have h7 : u 7 = .agg #[.int .i64 x.b, .int .i64 x.e, rs] := hp ⟨7, .data⟩ (by simp) rfl
      simp only [frOf, Act.put, List.setIfInBounds_toArray, List.set_cons_zero, List.set_cons_succ, Nat.zero_add, Nat.reduceAdd] at hK ⊢
      simp only [h7] at hK ⊢
      obtain rfl : b = 0 := ph0 (fun h => nomatch ((q1 h).1.symm.trans (by kernel_rfl : _ = true)))
      have hH2 : Hp w2 P2 ((s, Obj.cells (sgCells G (.slice la G.l.length lc)) 104 (0, 0)) :: Al ++ ((w.heap.size, Obj.cells #[.int .i64 x.b, .int .i64 x.e, rs] 38 (0, 0)) :: F)) := hJ
      go_simp
      refine (next_any x (by omega) (by omega) (by omega) _ _ (hH2.use (HV.out.sub hs2))).mono ?_
      rintro e w3 ⟨rfl, hz⟩
      exact hK _ w3 P2 (Sub.refl _) (hH2.below hz (Nat.le_refl _)) rfl
    · cases ho
      simp only [frOf, Act.put, List.setIfInBounds_toArray, List.set_cons_zero, List.set_cons_succ, Nat.zero_add, Nat.reduceAdd] at hK ⊢
      go_simp
      exact hK _ w2 P2 (Sub.refl _) hJ rfl
    · cases ho
      have h9 : u 9 = ptr s := hp ⟨9, .data⟩ (by simp) rfl
      simp only [frOf, Act.put, List.setIfInBounds_toArray, List.set_cons_zero, List.set_cons_succ, Nat.zero_add, Nat.reduceAdd] at hK ⊢
      simp only [h9] at hK ⊢
      obtain rfl : b = 0 := ph0 (fun h => nomatch ((q1 h).1.symm.trans (by kernel_rfl : _ = true)))
      have hH2 : Hp w2 P2 ((s, Obj.cells (sgCells G (.slice la G.l.length lc)) 104 (0, 0)) :: Al ++ ((w.heap.size, Obj.cells #[.int .i64 x.b, .int .i64 x.e, rs] 38 (0, 0)) :: F)) := hJ
      go_simp
      refine (ssize_any HG.out hW hH2).mono ?_
      rintro e w3 ⟨rfl, hz⟩
      exact hK _ w3 P2 (Sub.refl _) hz rfl
    · cases ho
      simp only [frOf, Act.put, List.setIfInBounds_toArray, List.set_cons_zero, List.set_cons_succ, Nat.zero_add, Nat.reduceAdd] at hK ⊢
      obtain rfl : b = 0 := ph0 (fun h => nomatch ((q1 h).1.symm.trans (by kernel_rfl : _ = true)))
      have hH2 : Hp w2 P2 ((s, Obj.cells (sgCells G (.slice la G.l.length lc)) 104 (0, 0)) :: Al ++ ((w.heap.size, Obj.cells #[.int .i64 x.b, .int .i64 x.e, rs] 38 (0, 0)) :: F)) := hJ
      obtain ⟨k4, kb0, kb1, kb2⟩ := HS.out w2 P2 hH2
      go_simp
      exact hK _ w2 P2 (Sub.refl _) hH2 rfl
    · cases ho
      have h11 : u 11 = .agg #[.int .i64 x.b, .int .i64 x.e, rs] := hp ⟨11, .data⟩ (by simp) rfl
      simp only [frOf, Act.put, List.setIfInBounds_toArray, List.set_cons_zero, List.set_cons_succ, Nat.zero_add, Nat.reduceAdd] at hK ⊢
      simp only [h11] at hK ⊢
      obtain rfl : b = 0 := ph0 (fun h => nomatch ((q1 h).1.symm.trans (by kernel_rfl : _ = true)))
      have hH2 : Hp w2 P2 ((s, Obj.cells (sgCells G (.slice la G.l.length lc)) 104 (0, 0)) :: Al ++ ((w.heap.size, Obj.cells #[.int .i64 x.b, .int .i64 x.e, rs] 38 (0, 0)) :: F)) := hJ
      go_simp
      refine (size_any (C.all 3 (by decide)) (C.all 4 (by decide)) x (by omega) hby _ _ (hH2.use (C.errs.sub hs2)) (hH2.use (HV.out.sub hs2))).mono ?_
      rintro e w3 ⟨rfl, hz⟩
      exact hK _ w3 P2 (Sub.refl _) (hH2.below hz (Nat.le_refl _)) rfl
    · cases ho
      simp only [frOf, Act.put, List.setIfInBounds_toArray, List.set_cons_zero, List.set_cons_succ, Nat.zero_add, Nat.reduceAdd] at hK ⊢
      go_simp
      exact hK _ w2 P2 (Sub.refl _) hJ rfl
    · cases ho
      have h13 : u 13 = .pointer (some ⟨w.heap.size, 1, none⟩) := hp ⟨13, .data⟩ (by simp) rfl
      simp only [frOf, Act.put, List.setIfInBounds_toArray, List.set_cons_zero, List.set_cons_succ, Nat.zero_add, Nat.reduceAdd] at hK ⊢
      simp only [h13] at hK ⊢
      obtain rfl : b = 0 := ph0 (fun h => nomatch ((q1 h).1.symm.trans (by kernel_rfl : _ = true)))
      have hH2 : Hp w2 P2 ((s, Obj.cells (sgCells G (.slice la G.l.length lc)) 104 (0, 0)) :: Al ++ ((w.heap.size, Obj.cells #[.int .i64 x.b, .int .i64 x.e, rs] 38 (0, 0)) :: F)) := hJ
      obtain ⟨k4, kb0, kb1, kb2⟩ := HS.out w2 P2 hH2
      go_simp
      exact hK _ w2 P2 (Sub.refl _) hH2 rfl
    · cases ho
      simp only [frOf, Act.put, List.setIfInBounds_toArray, List.set_cons_zero, List.set_cons_succ, Nat.zero_add, Nat.reduceAdd] at hK ⊢
      obtain rfl : b = 0 := ph0 (fun h => nomatch ((q1 h).1.symm.trans (by kernel_rfl : _ = true)))
      have hH2 : Hp w2 P2 ((s, Obj.cells (sgCells G (.slice la G.l.length lc)) 104 (0, 0)) :: Al ++ ((w.heap.size, Obj.cells #[.int .i64 x.b, .int .i64 x.e, rs] 38 (0, 0)) :: F)) := hJ
      obtain ⟨k4, kb0, kb1, kb2⟩ := HS.out w2 P2 hH2
      go_simp
      exact hK _ w2 P2 (Sub.refl _) hH2 rfl
    · cases ho
      have h15 : u 15 = .agg #[.int .i64 x.b, .int .i64 x.e, rs] := hp ⟨15, .data⟩ (by simp) rfl
      simp only [frOf, Act.put, List.setIfInBounds_toArray, List.set_cons_zero, List.set_cons_succ, Nat.zero_add, Nat.reduceAdd] at hK ⊢
      simp only [h15] at hK ⊢
      obtain rfl : b = 0 := ph0 (fun h => nomatch ((q1 h).1.symm.trans (by kernel_rfl : _ = true)))
      have hH2 : Hp w2 P2 ((s, Obj.cells (sgCells G (.slice la G.l.length lc)) 104 (0, 0)) :: Al ++ ((w.heap.size, Obj.cells #[.int .i64 x.b, .int .i64 x.e, rs] 38 (0, 0)) :: F)) := hJ
      go_simp
      refine (time_any x (by omega) _ _ (hH2.use (HV.out.sub hs2))).mono ?_
      rintro e w3 ⟨rfl, hz⟩
      exact hK _ w3 P2 (Sub.refl _) (hH2.below hz (Nat.le_refl _)) rfl
    · cases ho
      have h6 : u 6 = .int .i64 x.b := hp ⟨6, .data⟩ (by simp) rfl
      have h8 : u 8 = .int .i64 (x.b + x.r.length) := hp ⟨8, .data⟩ (by simp) rfl
      have h10 : u 10 = .int .i64 (sizes G.l) := hp ⟨10, .data⟩ (by simp) rfl
      have h12 : u 12 = .int .i64 (sizeB x) := hp ⟨12, .data⟩ (by simp) rfl
      have h14 : u 14 = .int .i64 x.e := hp ⟨14, .data⟩ (by simp) rfl
      have h16 : u 16 = .int .i64 (tmax x) := hp ⟨16, .data⟩ (by simp) rfl
      simp only [frOf, Act.put, List.setIfInBounds_toArray, List.set_cons_zero, List.set_cons_succ, Nat.zero_add, Nat.reduceAdd] at hK ⊢
      simp only [h6, h8, h10, h12, h14, h16] at hK ⊢
      go_simp
      exact hK _ w2 P2 (Sub.refl _) hJ rfl
    · cases ho
      have h17 : u 17 = .agg #[.int .i64 x.b, .int .i64 (x.b + x.r.length), .int .i64 (sizes G.l), .int .i64 (sizeB x), .int .i64 x.e, .int .i64 (tmax x)] := hp ⟨17, .data⟩ (by simp) rfl
      simp only [frOf, Act.put, List.setIfInBounds_toArray, List.set_cons_zero, List.set_cons_succ, Nat.zero_add, Nat.reduceAdd] at hK ⊢
      simp only [h17] at hK ⊢
      obtain rfl : b = 0 := ph0 (fun h => nomatch ((q1 h).1.symm.trans (by kernel_rfl : _ = true)))
      have hH2 : Hp w2 P2 ((s, Obj.cells (sgCells G (.slice la G.l.length lc)) 104 (0, 0)) :: Al ++ ((w.heap.size, Obj.cells #[.int .i64 x.b, .int .i64 x.e, rs] 38 (0, 0)) :: F)) := hJ
      go_simp
      obtain ⟨P3, z1, z2, z3⟩ := hH2.lay (Obj.cells #[.int .i64 x.b, .int .i64 (x.b + x.r.length), .int .i64 (sizes G.l), .int .i64 (sizeB x), .int .i64 x.e, .int .i64 (tmax x)] 112)
      exact hK _ _ P3 z1 z2 ⟨_, rfl, z3⟩
    · cases ho
      have h4 : u 4 = .slice la G.l.length lc := hp ⟨4, .data⟩ (by simp) rfl
      obtain ⟨bb, h18, hbb⟩ : ∃ b, u 18 = .slice (some ⟨b, 0, none⟩) 1 1 ∧ P2.m b = some (Obj.cells #[.int .i64 x.b, .int .i64 (x.b + x.r.length), .int .i64 (sizes G.l), .int .i64 (sizeB x), .int .i64 x.e, .int .i64 (tmax x)] 112 (0, 0)) := hp ⟨18, .data⟩ (by simp) rfl
      obtain rfl : b = 0 := ph0 (fun h => (q1 h).2 rfl)
      have hH2 : Hp w2 P2 ((s, Obj.cells (sgCells G (.slice la G.l.length lc)) 104 (0, 0)) :: Al ++ ((w.heap.size, Obj.cells #[.int .i64 x.b, .int .i64 x.e, rs] 38 (0, 0)) :: F)) := hJ
      simp only [frOf, Act.put, List.setIfInBounds_toArray, List.set_cons_zero, List.set_cons_succ, Nat.zero_add, Nat.reduceAdd] at hK ⊢
      simp only [h4, h18] at hK ⊢
      refine step_push2 (a := ⟨_, []⟩) (by rfl) _ _ _ (by rfl) 112 _ 6 48 Tryz.underlying102 infoPl (by rfl) (by omega) (.slice la G.l.length lc) G.l.length (placesV 0 G.l) (by rfl) (Hp.mid (A := [_]) (B := Al) hH2) HR.out bb #[.int .i64 x.b, .int .i64 (x.b + x.r.length), .int .i64 (sizes G.l), .int .i64 (sizeB x), .int .i64 x.e, .int .i64 (tmax x)] (by rfl) hbb (by rfl) (by intro u hu; simp at hu; rcases hu with rfl | rfl | rfl | rfl | rfl | rfl <;> rfl) hgl.out (by omega) ?_
      intro g cap w3 Al' hr3 hH3
      simp only [Act.put, List.setIfInBounds_toArray, List.set_cons_zero, List.set_cons_succ]
      exact hK _ w3 P2 (Sub.refl _) ⟨g, cap, Al', rfl, hr3, hH3⟩ trivial
    · cases ho
      have h0 : u 0 = ptr s := hp ⟨0, .data⟩ (by simp) rfl
      simp only [frOf, Act.put, List.setIfInBounds_toArray, List.set_cons_zero, List.set_cons_succ, Nat.zero_add, Nat.reduceAdd] at hK ⊢
      simp only [h0] at hK ⊢
      go_simp
      exact hK _ w2 P2 (Sub.refl _) hJ rfl
    · cases ho
      have h20 : u 20 = ptr s := hp ⟨20, .data⟩ (by simp) rfl
      simp only [frOf, Act.put, List.setIfInBounds_toArray, List.set_cons_zero, List.set_cons_succ, Nat.zero_add, Nat.reduceAdd] at hK ⊢
      simp only [h20] at hK ⊢
      go_simp
      exact hK _ w2 P2 (Sub.refl _) hJ rfl
    · cases ho
      simp only [frOf, Act.put, List.setIfInBounds_toArray, List.set_cons_zero, List.set_cons_succ, Nat.zero_add, Nat.reduceAdd] at hK ⊢
      have h21 : u 21 = .pointer (some ⟨s, 4, none⟩) := hp ⟨21, .data⟩ (by simp) rfl
      obtain rfl : b = 1 := ph1 (q3 (by kernel_rfl)) (fun e => (q2 e).2 rfl) q4
      have hJ' : ∃ g cap Al', u 19 = .slice (some ⟨g, 0, none⟩) (G.l.length + 1) cap ∧ RowM 112 6 (u 19) (G.l.length + 1) (placesV 0 G.l ++ #[.int .i64 x.b, .int .i64 (x.b + x.r.length), .int .i64 (sizes G.l), .int .i64 (sizeB x), .int .i64 x.e, .int .i64 (tmax x)].toList) Al' ∧ Hp w2 P2 (Al' ++ ((s, Obj.cells (sgCells G (.slice la G.l.length lc)) 104 (0, 0)) :: (w.heap.size, Obj.cells #[.int .i64 x.b, .int .i64 x.e, rs] 38 (0, 0)) :: F)) := hJ
      obtain ⟨g, cap, Al', h19, hr3, hH3⟩ := hJ'
      simp only [Nat.reduceEqDiff, if_true, if_false] at hK
      simp only [h21, h19] at hK hr3 ⊢
      have f4 := @Hp.frozen _ _ _ hH3 s (sgCells G (.slice la G.l.length lc)) 104 (by simp) 4
      have k4 : w2.cell? ⟨s, 4, none⟩ = some (.slice la G.l.length lc) := (@Hp.cell _ _ _ hH3 s (sgCells G (.slice la G.l.length lc)) 104 (0, 0) (by simp)) rfl
      go_simp
      refine hK undef _ P2 (Sub.refl _) ⟨Al', hr3, ?_⟩ trivial
      have hz := (Hp.mid (A := Al') (B := [(s, Obj.cells (sgCells G (.slice la G.l.length lc)) 104 (0, 0))]) hH3).set 4 (.slice (some ⟨g, 0, none⟩) (G.l.length + 1) cap)
      exact Hp.mid (A := [_]) (B := Al') (by simpa [sgCells] using hz)
    · exact absurd ho (by simp)
  · intro u w2 P2 hs2 hJ hR
    obtain ⟨Al', hr3, hH3⟩ := hJ
    simp only [frOf, List.setIfInBounds_toArray, List.set_cons_zero, List.set_cons_succ, Nat.zero_add, Nat.reduceAdd]
    go_wp2_with fail
    go_end0
    refine ⟨rfl, _, ⟨u 19, Al', rfl, ?_⟩, ?_⟩
    · have e1 : (G.push x).l.length = G.l.length + 1 := by simp [Sg.push]
      have e2 : placesV 0 (G.push x).l = placesV 0 G.l ++ #[.int .i64 x.b, .int .i64 (x.b + x.r.length), .int .i64 (sizes G.l), .int .i64 (sizeB x), .int .i64 x.e, .int .i64 (tmax x)].toList := by
        show placesV 0 (G.l ++ [x]) = _
        rw [placesV_app, sizeB_ok x HOK.out]
        simp [placesV, placeL]
      rw [e1, e2]; exact hr3
    · have hz := (Hp.mid (A := Al') (B := [(s, Obj.cells (sgCells G (u 19)) 104 (0, 0)), (w.heap.size, Obj.cells #[.int .i64 x.b, .int .i64 x.e, rs] 38 (0, 0))]) hH3).pick 1 rfl
      exact hz.tail.weaken hs2
end

end Go.Proofs.YtncjffkpkmjgkaaGreatDoor.Sg

/-! Gd -/
namespace Go.Proofs.YtncjffkpkmjgkaaGreatDoor.Sg
open Go.RowKit Er Go.Maps

theorem batB_ne (x : Bt) : batB x ≠ [] := by
  intro h
  have := batB_len x
  rw [h] at this
  simp at this
  omega

section
variable {S : List Nat} {E : Nat → Addr} {B : Nat} {P : Pm} {s : Nat} {G : Sg} {D : Dk} {A Ad F : Mm} {w : World}

set_option maxRecDepth 100000 in
set_option maxHeartbeats 1000000 in
theorem sappend_ok (C : Ctx S E B P) (hG : SgM s G A) (hW : SgW G) (hD : DkM P G.d D Ad) (hDW : DkW D) (x : Bt) (hok : BtOk x) (hby : BtBy x) (v : Value) (hv : Pers P (fun w => BtV w v x)) (hf : G.foll x = true)
    (hs : G.nm.length ≤ 1099511627776) (b : Nat) (h : D.find G.nm = .ok b) (f : Fl) (hff : ffind D.fl b = some f) (hr : D.room ≤ 1099511627776) (hroom : D.used + szB x ≤ D.room) (hfb : f.b.length ≤ 1099511627776) (hH : Hp w P (A ++ (Ad ++ F))) :
    Calls Tryz.prog 91 #[ptr s, v] w fun e w' => e = .returned .nilIface ∧ ∃ P' A' Ad', Sub P P' ∧ SgM s (G.push x) A' ∧ DkM P' G.d (D.app f (batB x)) Ad' ∧ Hp w' P' (A' ++ (Ad' ++ F)) := by
  obtain ⟨rs, rfl, -⟩ := hH.use hv
  have hro : rs.oneCell' = true := by
    obtain ⟨rs', h1, h2⟩ := hH.use hv
    simp at h1; subst h1
    obtain ⟨a, c, rfl⟩ := h2.shape; rfl
  have hH0 : Hp (w.alloc (.cells #[.int .i64 x.b, .int .i64 x.e, rs] 38)) P (A ++ (Ad ++ ((w.heap.size, .cells #[.int .i64 x.b, .int .i64 x.e, rs] 38 (0, 0)) :: F))) := by
    have := Hp.mid (A := [(w.heap.size, Obj.cells #[.int .i64 x.b, .int .i64 x.e, rs] 38 (0, 0))]) (B := A ++ Ad) (C := F) (by simpa [List.append_assoc] using hH.alloc (.cells #[.int .i64 x.b, .int .i64 x.e, rs] 38))
    simpa [List.append_assoc] using this
  have hroom' : D.used + (batB x).length ≤ D.room := hroom
  have H0 := Lib.hid hH0
  have HV := Lib.hid hv
  clear hH hH0 hv
  go_enter Tryz.func91, Tryz.ntmps91
  go_wp2_with fail
  refine (bytes_ok (C.all 3 (by decide)) (C.all 4 (by decide)) x hok hby _ _ (H0.out.use C.errs) (H0.out.use HV.out)).mono ?_
  rintro e w1 ⟨⟨v1, rfl, hown⟩, hb1⟩
  obtain ⟨A1, hr1, hH1⟩ := Hp.rowNew H0.out (H0.out.below hb1 (Nat.le_refl _)) hown (Nat.le_refl _)
  obtain ⟨P1, hs1, hH2, hp1⟩ := Hp.sealBytes hH1 hr1
  have c0 : w1.cell? ⟨w.heap.size, 0, none⟩ = some (.int .i64 x.b) := (@Hp.cell _ _ _ hH2 w.heap.size #[.int .i64 x.b, .int .i64 x.e, rs] 38 (0, 0) (by simp)) rfl
  have c1 : w1.cell? ⟨w.heap.size, 1, none⟩ = some (.int .i64 x.e) := (@Hp.cell _ _ _ hH2 w.heap.size #[.int .i64 x.b, .int .i64 x.e, rs] 38 (0, 0) (by simp)) rfl
  have c2 : w1.cell? ⟨w.heap.size, 2, none⟩ = some rs := (@Hp.cell _ _ _ hH2 w.heap.size #[.int .i64 x.b, .int .i64 x.e, rs] 38 (0, 0) (by simp)) rfl
  have H2 := Lib.hid hH2
  have HP1 := Lib.hid hp1
  have HS1 := Lib.hid hs1
  clear hb1 hown hr1 hH1 hH2 hp1 hs1
  go_wp2_with fail
  refine (follows_any hG hW x _ (HV.out.sub HS1.out) H2.out).mono ?_
  rintro e w2 ⟨rfl, hH3⟩
  rw [hf]
  obtain ⟨lv, d0, d1, -, -, -, -, -, -⟩ := hG.cells hH3
  have H3 := Lib.hid hH3
  clear hH3 c0 c1 c2
  go_wp2_with fail
  go_region_held3 (fun w' => w'.cell? ⟨s, 0, none⟩ = some (ptr G.d) ∧ w'.cell? ⟨s, 1, none⟩ = some (str G.nm))
    (first
      | go_keep
      | exact ⟨k0, k1⟩)
    (first
      | (go_at_call 12
         with_reducible refine (dappend_ok (C.sub HS1.out) (hD.sub HS1.out) hDW (Hp.mid H3.out).drew G.nm hs b h f hff _ (batB x) HP1.out (batB_ne x) hr hroom' hfb).mono ?_
         rintro e w3 ⟨rfl, P2, Ad2, hs2, hD2, hH4⟩
         have hH5 := Hp.mid hH4
         obtain ⟨lv2, k0, k1, -, -, -, -, -, -⟩ := hG.cells hH5
         have b0 : w3.cell? ⟨w.heap.size, 0, none⟩ = some (.int .i64 x.b) := (@Hp.cell _ _ _ hH5 w.heap.size #[.int .i64 x.b, .int .i64 x.e, rs] 38 (0, 0) (by simp)) rfl
         have b1 : w3.cell? ⟨w.heap.size, 1, none⟩ = some (.int .i64 x.e) := (@Hp.cell _ _ _ hH5 w.heap.size #[.int .i64 x.b, .int .i64 x.e, rs] 38 (0, 0) (by simp)) rfl
         have b2 : w3.cell? ⟨w.heap.size, 2, none⟩ = some rs := (@Hp.cell _ _ _ hH5 w.heap.size #[.int .i64 x.b, .int .i64 x.e, rs] 38 (0, 0) (by simp)) rfl))
  have H5 := Lib.hid hH5
  have HS2 := Lib.hid (HS1.out.trans hs2)
  have HD2 := Lib.hid hD2
  clear hH4 hH5 hs2 hD2
  go_wp2_with fail
  refine (sput_any (C.sub HS2.out) hG hW x hok hby _ (HV.out.sub HS2.out) H5.out).mono ?_
  rintro e w4 ⟨rfl, A4, hG4, hH6⟩
  go_wp2_with fail
  go_ret
  refine ⟨rfl, P2, A4, Ad2, HS2.out, hG4, HD2.out, ?_⟩
  have hz := Hp.drop (Hp.mid (A := A4 ++ Ad2) (B := [(w.heap.size, Obj.cells #[.int .i64 x.b, .int .i64 x.e, rs] 38 (0, 0))]) (C := F) (by simpa [List.append_assoc] using hH6))
  simpa [List.append_assoc] using hz
end

end Go.Proofs.YtncjffkpkmjgkaaGreatDoor.Sg

/-! Ge -/
namespace Go.Proofs.YtncjffkpkmjgkaaGreatDoor.Sg
open Go.RowKit Er Go.Maps

/-- All that is not owned is let be for good; so are records that have just been read. -/
theorem Hp.sealRcs {w : World} {P : Pm} {M : Mm} (h : Hp w P M) {base : Nat} {rs : Value} {L : List Rc} (ho : RcO w base rs L (ids M)) :
    ∃ P', Sub P P' ∧ Hp w P' M ∧ Pers P' (fun w => RcsN w rs L (ids M)) :=
  ⟨Pm.all w M, h.all.1, h.all.2, Pers.upd.imp (fun _ hu => (ho.readN).upd hu (fun _ hk => .inl hk))⟩

theorem ids_mid2 {A Ad F : Mm} {x y : Nat × Obj} {k : Nat} (h : k ∈ ids (A ++ (Ad ++ F))) : k ∈ ids (A ++ (Ad ++ (x :: y :: F))) := by
  simp only [ids, List.map_append, List.map_cons, List.mem_append, List.mem_cons] at h ⊢
  rcases h with h | h | h
  · exact .inl h
  · exact .inr (.inl h)
  · exact .inr (.inr (.inr (.inr h)))

section
variable {S : List Nat} {E : Nat → Addr} {B : Nat} {P : Pm} {s : Nat} {G : Sg} {D : Dk} {A Ad F : Mm} {w : World}

set_option maxRecDepth 100000 in
set_option maxHeartbeats 1000000 in
theorem batch_ok (C : Ctx S E B P) (hG : SgM s G A) (hD : DkM P G.d D Ad) (x : Bt) (hok : BtOk x) (hby : BtBy x) (p : Nat) (hs : G.nm.length ≤ 1099511627776) (b : Nat) (h : D.file G.nm = .ok b) (f : Fl) (hff : ffind D.fl b = some f)
    (hfb : f.b.length ≤ 1099511627776) (hn : p + szB x ≤ f.b.length) (hx : (f.b.drop p).take (szB x) = batB x) (hH : Hp w P (A ++ (Ad ++ F))) :
    Calls Tryz.prog 97 #[ptr s, .agg #[.int .i64 x.b, .int .i64 (x.b + x.r.length), .int .i64 p, .int .i64 (szB x), .int .i64 x.e, .int .i64 (tmax x)]] w fun e w' =>
      ∃ v P', e = .returned (.tuple #[v, .nilIface]) ∧ Sub P P' ∧ Pers P' (fun w => BtN w v x (ids (A ++ (Ad ++ F)))) ∧ Hp w' P' (A ++ (Ad ++ F)) := by
  obtain ⟨pc, hpc⟩ : ∃ pc : Array Value, pc = #[.int .i64 x.b, .int .i64 (x.b + x.r.length), .int .i64 p, .int .i64 (szB x), .int .i64 x.e, .int .i64 (tmax x)] := ⟨_, rfl⟩
  obtain ⟨zc, hzc⟩ : ∃ zc : Array Value, zc = #[.int .i64 0, .int .i64 0, .slice none 0 0] := ⟨_, rfl⟩
  have hH0 : Hp ((w.alloc (.cells pc 112)).alloc (.cells zc 38)) P (A ++ (Ad ++ ((w.heap.size + 1, .cells zc 38 (0, 0)) :: (w.heap.size, .cells pc 112 (0, 0)) :: F))) := by
    have := (hH.alloc (.cells pc 112)).alloc (.cells zc 38)
    rw [World.alloc_size'] at this
    have := Hp.mid (A := [(w.heap.size + 1, Obj.cells zc 38 (0, 0)), (w.heap.size, Obj.cells pc 112 (0, 0))]) (B := A ++ Ad) (C := F) (by simpa [List.append_assoc] using this)
    simpa [List.append_assoc] using this
  subst hpc hzc
  obtain ⟨lv, d0, d1, -, -, -, -, -, -⟩ := hG.cells hH0
  have c2 := (@Hp.cell _ _ _ hH0 w.heap.size #[.int .i64 x.b, .int .i64 (x.b + x.r.length), .int .i64 p, .int .i64 (szB x), .int .i64 x.e, .int .i64 (tmax x)] 112 (0, 0) (by simp)) (i := 2) rfl
  have c3 := (@Hp.cell _ _ _ hH0 w.heap.size #[.int .i64 x.b, .int .i64 (x.b + x.r.length), .int .i64 p, .int .i64 (szB x), .int .i64 x.e, .int .i64 (tmax x)] 112 (0, 0) (by simp)) (i := 3) rfl
  have H0 := Lib.hid hH0
  have HX := Lib.hid hx
  clear hH hH0 hx
  go_enter Tryz.func97, Tryz.ntmps97
  go_wp2_with fail
  go_region_held3 (fun w' => w'.cell? ⟨s, 0, none⟩ = some (ptr G.d) ∧ w'.cell? ⟨s, 1, none⟩ = some (str G.nm) ∧ w'.cell? ⟨w.heap.size, 2, none⟩ = some (.int .i64 p) ∧ w'.cell? ⟨w.heap.size, 3, none⟩ = some (.int .i64 (szB x)))
    (first
      | go_keep
      | exact ⟨k0, k1, k2, k3⟩)
    (first
      | (go_at_call 57
         with_reducible refine (dread_ok C hD (Hp.mid H0.out).drew G.nm hs b h f hff hfb p (szB x) hn).mono ?_
         rintro e w1 ⟨v1, P1, rfl, hs1, hp1, hH1⟩
         have hH2 := Hp.mid hH1
         obtain ⟨lv2, k0, k1, -, -, -, -, -, -⟩ := hG.cells hH2
         have k2 := (@Hp.cell _ _ _ hH2 w.heap.size #[.int .i64 x.b, .int .i64 (x.b + x.r.length), .int .i64 p, .int .i64 (szB x), .int .i64 x.e, .int .i64 (tmax x)] 112 (0, 0) (by simp)) (i := 2) rfl
         have k3 := (@Hp.cell _ _ _ hH2 w.heap.size #[.int .i64 x.b, .int .i64 (x.b + x.r.length), .int .i64 p, .int .i64 (szB x), .int .i64 x.e, .int .i64 (tmax x)] 112 (0, 0) (by simp)) (i := 3) rfl))
  rw [HX.out] at hp1
  have hp2 : Pers P1 (fun w => SlB w v1 (batB x ++ [])) := by rw [List.append_nil]; exact hp1
  have H2 := Lib.hid hH2
  have HP := Lib.hid hp2
  have HS1 := Lib.hid hs1
  clear hH1 hH2 hp1 hp2 hs1
  go_wp2_with fail
  refine (recread_ok ((C.sub HS1.out).all 3 (by decide)) ((C.sub HS1.out).all 4 (by decide)) x hok hby (ids (A ++ (Ad ++ ((w.heap.size + 1, .cells #[.int .i64 0, .int .i64 0, .slice none 0 0] 38 (0, 0)) :: (w.heap.size, .cells #[.int .i64 x.b, .int .i64 (x.b + x.r.length), .int .i64 p, .int .i64 (szB x), .int .i64 x.e, .int .i64 (tmax x)] 112 (0, 0)) :: F)))) v1 [] w1 (H2.out.ids_lt) (H2.out.use (C.sub HS1.out).errs) (H2.out.use HP.out) (by rw [List.append_nil]; show szB x ≤ _; omega)).mono ?_
  rintro e w2 ⟨⟨rs, rfl, hro⟩, hb2⟩
  obtain ⟨P2, hs2, hH3, hp3⟩ := Hp.sealRcs (H2.out.below hb2 (Nat.le_refl _)) hro
  obtain ⟨ra, rl, rc, rfl⟩ : ∃ a l c, rs = .slice a l c := by
    obtain ⟨a, c, e⟩ := (hH3.use hp3).plain.shape
    exact ⟨a, _, c, e⟩
  have hp0 : Hp (w2.alloc (.cells #[.int .i64 x.b, .int .i64 x.e, .slice ra rl rc] 38)) P2 ((w.heap.size + 1, .cells #[.int .i64 0, .int .i64 0, .slice none 0 0] 38 (0, 0)) :: (w2.heap.size, .cells #[.int .i64 x.b, .int .i64 x.e, .slice ra rl rc] 38 (0, 0)) :: (A ++ (Ad ++ ((w.heap.size, .cells #[.int .i64 x.b, .int .i64 (x.b + x.r.length), .int .i64 p, .int .i64 (szB x), .int .i64 x.e, .int .i64 (tmax x)] 112 (0, 0)) :: F)))) := by
    have := hH3.alloc (.cells #[.int .i64 x.b, .int .i64 x.e, .slice ra rl rc] 38)
    have := (Hp.mid (A := (w2.heap.size, .cells #[.int .i64 x.b, .int .i64 x.e, .slice ra rl rc] 38 (0, 0)) :: (A ++ Ad)) (B := [(w.heap.size + 1, .cells #[.int .i64 0, .int .i64 0, .slice none 0 0] 38 (0, 0))]) (C := (w.heap.size, .cells #[.int .i64 x.b, .int .i64 (x.b + x.r.length), .int .i64 p, .int .i64 (szB x), .int .i64 x.e, .int .i64 (tmax x)] 112 (0, 0)) :: F) (by simpa [List.append_assoc] using this))
    simpa [List.append_assoc] using this
  have d0 := (@Hp.cell _ _ _ hp0 (w.heap.size + 1) #[.int .i64 0, .int .i64 0, .slice none 0 0] 38 (0, 0) (by simp)) (i := 0) rfl
  have d1 := (@Hp.cell _ _ _ hp0 (w.heap.size + 1) #[.int .i64 0, .int .i64 0, .slice none 0 0] 38 (0, 0) (by simp)) (i := 1) rfl
  have d2 := (@Hp.cell _ _ _ hp0 (w.heap.size + 1) #[.int .i64 0, .int .i64 0, .slice none 0 0] 38 (0, 0) (by simp)) (i := 2) rfl
  have e0 : (w2.alloc (.cells #[.int .i64 x.b, .int .i64 x.e, .slice ra rl rc] 38)).frozen? ⟨w.heap.size + 1, 0, none⟩ = false := Hp.frozen hp0 (c := #[.int .i64 0, .int .i64 0, .slice none 0 0]) (t := 38) (by simp) 0
  have e1 : (w2.alloc (.cells #[.int .i64 x.b, .int .i64 x.e, .slice ra rl rc] 38)).frozen? ⟨w.heap.size + 1, 1, none⟩ = false := Hp.frozen hp0 (c := #[.int .i64 0, .int .i64 0, .slice none 0 0]) (t := 38) (by simp) 1
  have e2 : (w2.alloc (.cells #[.int .i64 x.b, .int .i64 x.e, .slice ra rl rc] 38)).frozen? ⟨w.heap.size + 1, 2, none⟩ = false := Hp.frozen hp0 (c := #[.int .i64 0, .int .i64 0, .slice none 0 0]) (t := 38) (by simp) 2
  have H3 := Lib.hid hp0
  have HP3 := Lib.hid hp3
  have HS2 := Lib.hid (HS1.out.trans hs2)
  clear hH3 hp3 hs2 hb2 hro hp0
  go_wp2_with fail
  have hz := ((H3.out.set 0 (.int .i64 x.b)).set 1 (.int .i64 x.e)).set 2 (.slice ra rl rc)
  have g0 := (@Hp.cell _ _ _ hz _ _ _ (0, 0) List.mem_cons_self) (i := 0) rfl
  have g1 := (@Hp.cell _ _ _ hz _ _ _ (0, 0) List.mem_cons_self) (i := 1) rfl
  have g2 := (@Hp.cell _ _ _ hz _ _ _ (0, 0) List.mem_cons_self) (i := 2) rfl
  have hM : Hp ((((w2.alloc (.cells #[.int .i64 x.b, .int .i64 x.e, .slice ra rl rc] 38)).setCell ⟨w.heap.size + 1, 0, none⟩ (.int .i64 x.b)).setCell ⟨w.heap.size + 1, 1, none⟩ (.int .i64 x.e)).setCell ⟨w.heap.size + 1, 2, none⟩ (.slice ra rl rc)) P2 (A ++ (Ad ++ F)) := by
    have := Hp.drop (Hp.mid (A := A ++ Ad) (B := [(w.heap.size, .cells #[.int .i64 x.b, .int .i64 (x.b + x.r.length), .int .i64 p, .int .i64 (szB x), .int .i64 x.e, .int .i64 (tmax x)] 112 (0, 0))]) (C := F) (by simpa [List.append_assoc] using hz.tail.tail))
    simpa [List.append_assoc] using this
  exact bodyPost_ret (v := .tuple #[.agg #[.int .i64 x.b, .int .i64 x.e, .slice ra rl rc], .nilIface]) (by simp [results, Tryz.results97, go_sem, g0, g1, g2]) rfl ⟨_, P2, rfl, HS2.out, HP3.out.imp (fun w' hr => ⟨_, rfl, hr.sub (fun k hk => ids_mid2 hk)⟩), hM⟩
end

end Go.Proofs.YtncjffkpkmjgkaaGreatDoor.Sg

/-! Gf -/
namespace Go.Proofs.YtncjffkpkmjgkaaGreatDoor.Sg
open Go.RowKit Er Go.Maps

/-- A batch from an offset on. -/
def fromL (x : Bt) (o : Int) : Bt := if o ≤ x.b then x else ⟨o, x.e, x.r.drop (o - x.b).toNat⟩
theorem fromL_ok (x : Bt) (h : BtOk x) (o : Int) (ho : o < x.b + x.r.length) : BtOk (fromL x o) := by
  unfold fromL
  split
  · exact h
  · have := h.n1; have := h.n64; have := h.b0; have := h.b1
    refine ⟨?_, ?_, ?_, ?_, h.e0, h.e1, fun y hy => h.rs y (List.mem_of_mem_drop hy)⟩
    · simp; omega
    · simp; omega
    · show 0 ≤ o; omega
    · show o + ((x.r.drop _).length : Int) ≤ _
      rw [List.length_drop]; omega
theorem fromL_by (x : Bt) (h : BtBy x) (o : Int) : BtBy (fromL x o) := by
  unfold fromL
  split
  · exact h
  · exact fun y hy => h y (List.mem_of_mem_drop hy)

theorem from_any (x : Bt) (hok : BtOk x) (o : Int) (ho : o < x.b + x.r.length) (N : List Nat) (w : World) (hN : ∀ k, k ∈ N → k < w.heap.size) (v : Value) (h : BtN w v x N) :
    Calls Tryz.prog 98 #[v, .int .i64 o] w fun e w' => (∃ v', e = .returned v' ∧ BtN w' v' (fromL x o) N) ∧ Below w.heap.size w w' := by
  by_cases hc : o ≤ x.b
  · have := from_ahead x o hc N v w h
    rwa [show fromL x o = x from if_pos hc]
  · obtain ⟨p, rfl⟩ : ∃ p : Nat, o = x.b + p := ⟨(o - x.b).toNat, by omega⟩
    have := from_in x p (by omega) (by omega) hok.b0 (by have := hok.b1; omega) (by have := hok.n64; omega) N w hN v h
    rwa [show fromL x (x.b + p) = ⟨x.b + p, x.e, x.r.drop p⟩ from by
      unfold fromL; rw [if_neg hc, show (x.b + (p : Int) - x.b).toNat = p from by omega]]

theorem szB_le (x : Bt) (h : BtOk x) : szB x ≤ 38816 := by
  have := batB_len x; have := bodyB_len x h
  unfold szB; omega
theorem szB_pos (x : Bt) : 0 < szB x := by have := batB_len x; unfold szB; omega

/-- What seg.Read tells. -/
def rdGo (o most : Int) : List Bt → List Bt → Nat → List Bt
  | [], out, _ => out
  | x :: l, out, sum =>
    if x.b + x.r.length ≤ o then rdGo o most l out sum
    else if out ≠ [] ∧ most - sum < szB (fromL x o) then out
    else if most < sum + szB (fromL x o) then out ++ [fromL x o]
    else rdGo o most l (out ++ [fromL x o]) (sum + szB (fromL x o))

/-- The bytes of batches, one behind the other. -/
def flatB (l : List Bt) : List Nat := (l.map batB).flatten
theorem flatB_len (l : List Bt) : (flatB l).length = sizes l := by
  induction l with
  | nil => rfl
  | cons x l ih => simp [flatB, sizes, szB] at ih ⊢; try omega
theorem flatB_app (l m : List Bt) : flatB (l ++ m) = flatB l ++ flatB m := by simp [flatB]
theorem flat_at (l : List Bt) (k : Nat) (hk : k < l.length) : ((flatB l).drop (sizes (l.take k))).take (szB l[k]) = batB l[k] ∧ sizes (l.take k) + szB l[k] ≤ (flatB l).length := by
  have e : l = l.take k ++ (l[k] :: l.drop (k + 1)) := by rw [← List.drop_eq_getElem_cons hk, List.take_append_drop]
  have e2 : flatB l = flatB (l.take k) ++ (batB l[k] ++ flatB (l.drop (k + 1))) := by
    conv => lhs; rw [e]
    rw [flatB_app]; rfl
  rw [e2]
  refine ⟨?_, ?_⟩
  · rw [← flatB_len, List.drop_left]; exact List.take_left' rfl
  · simp [flatB_len, szB]

section
variable {P : Pm} {s : Nat} {G : Sg} {A F : Mm} {w : World}

theorem Hp.sealBt {M : Mm} (h : Hp w P M) {v : Value} {x : Bt} (ho : BtN w v x (ids M)) : ∃ P', Sub P P' ∧ Hp w P' M ∧ Pers P' (fun w => BtN w v x (ids M)) :=
  ⟨Pm.all w M, h.all.1, h.all.2, Pers.upd.imp (fun _ hu => ho.upd hu (fun _ hk => .inl hk))⟩
theorem BtN.sub {v : Value} {x : Bt} {N N' : List Nat} (h : BtN w v x N) (hs : ∀ k, k ∈ N' → k ∈ N) : BtN w v x N' := by
  obtain ⟨rs, hv, h⟩ := h
  exact ⟨rs, hv, h.sub hs⟩
theorem BtN.more {v : Value} {x : Bt} {N K : List Nat} (h : BtN w v x N) (hK : ∀ k, k ∈ K → w.heap.size ≤ k) : BtN w v x (K ++ N) := by
  obtain ⟨rs, hv, h⟩ := h
  exact ⟨rs, hv, h.more hK⟩

/-- A segment's places in memory. -/
theorem SgM.places (hG : SgM s G A) (h0 : G.l ≠ []) : ∃ g c, G.l.length ≤ c ∧ ∀ w P F, Hp w P (A ++ F) → w.cell? ⟨s, 4, none⟩ = some (.slice (some ⟨g, 0, none⟩) G.l.length c) ∧
    ∀ (k : Nat) (hk : k < G.l.length) (j : Nat) (u : Value), (placeL (sizes (G.l.take k)) G.l[k])[j]? = some u → w.cell? ⟨g, k * 6 + j, none⟩ = some u := by
  obtain ⟨lv, Al, rfl, hr⟩ := hG
  have hpos : 0 < G.l.length := List.length_pos_iff.2 h0
  obtain ⟨h1, h2⟩ := id hr
  rcases h2 with ⟨-, hn, -⟩ | ⟨g, cap, cur, rfl, hc, -, hs, ht, -⟩
  · omega
  · refine ⟨g, cap, hc, fun w P F hH => ⟨(@Hp.cell _ _ _ hH s (sgCells G (.slice (some ⟨g, 0, none⟩) G.l.length cap)) 104 (0, 0) (by simp)) (i := 4) rfl, fun k hk j u hu => ?_⟩⟩
    have hj : j < 6 := by have := (List.getElem?_eq_some_iff.1 hu).1; simpa [placeL] using this
    have hx := placesV_at 0 G.l k hk j hj
    rw [Nat.zero_add] at hx
    have hH2 : Hp w P (Al ++ ((s, Obj.cells (sgCells G (.slice (some ⟨g, 0, none⟩) G.l.length cap)) 104 (0, 0)) :: F)) := Hp.mid (A := [(s, Obj.cells (sgCells G (.slice (some ⟨g, 0, none⟩) G.l.length cap)) 104 (0, 0))]) (B := Al) (C := F) hH
    obtain ⟨_, _, e, _, hcl⟩ := hr.cell hH2 (hx.trans hu)
    cases e
    exact hcl

/-- Batches in a row that is owned; their records are there for good. -/
def btsV (l : List (Bt × Value)) : List Value := l.flatMap fun p => [.int .i64 p.1.b, .int .i64 p.1.e, p.2]
theorem btsV_app (l m : List (Bt × Value)) : btsV (l ++ m) = btsV l ++ btsV m := by simp [btsV]
structure BtsM (P : Pm) (v : Value) (L : List Bt) (out : List (Bt × Value)) (A : Mm) : Prop where
  map : out.map (·.1) = L
  row : RowM 38 3 v L.length (btsV out) A
  rs : Pers P (fun w => ∀ p, p ∈ out → RcsN w p.2 p.1.r [])
theorem BtsM.nil (P : Pm) : BtsM P (.slice none 0 0) [] [] [] := ⟨rfl, rowM_nil _ _, fun _ _ p h => by cases h⟩
theorem BtsM.sub {P' : Pm} {v : Value} {L : List Bt} {out : List (Bt × Value)} (h : BtsM P v L out A) (hs : Sub P P') : BtsM P' v L out A := ⟨h.map, h.row, h.rs.sub hs⟩
end

theorem infoBt : (Tryz.prog.info? 38).map (fun i => (i.zero, i.size, i.bytes)) = some (some (.agg #[.int .i64 0, .int .i64 0, .slice none 0 0]), 3, 40) := by kernel_rfl
end Go.Proofs.YtncjffkpkmjgkaaGreatDoor.Sg

/-! Gg -/
namespace Go.Proofs.YtncjffkpkmjgkaaGreatDoor.Sg
open Go.RowKit Er Go.Maps

section
variable {S : List Nat} {E : Nat → Addr} {B : Nat} {P : Pm} {s : Nat} {G : Sg} {D : Dk} {A Ad F : Mm} {w : World}

/-- What holds at the head of seg.Read's loop. -/
def RdRel (G : Sg) (P : Pm) (A Ad F : Mm) (o most : Int) (R : List Bt) (m : Nat) (vo vs vi : Value) (w : World) : Prop :=
  ∃ (k : Nat) (L : List Bt) (out : List (Bt × Value)) (sum : Nat) (P' : Pm) (Ao : Mm), k + m = G.l.length ∧ vs = .int .i64 sum ∧ vi = .int .i64 k ∧ Sub P P' ∧ BtsM P' vo L out Ao ∧ L.length ≤ k ∧ sum ≤ k * 38816 ∧ (sum = 0 ∨ (sum : Int) ≤ most) ∧
    rdGo o most (G.l.drop k) L sum = R ∧ Hp w P' (Ao ++ (A ++ (Ad ++ F)))

set_option maxRecDepth 100000 in
set_option maxHeartbeats 2000000 in
theorem sread_ok (C : Ctx S E B P) (hG : SgM s G A) (hW : SgW G) (hD : DkM P G.d D Ad) (hs : G.nm.length ≤ 1099511627776) (b : Nat) (h : D.file G.nm = .ok b) (f : Fl) (hff : ffind D.fl b = some f)
    (hfb : f.b.length ≤ 1099511627776) (hfl : f.b = flatB G.l) (o most : Int) (ho1 : (G.base : Int) ≤ o) (ho2 : o < G.end_) (hm1 : -9223372036854775808 ≤ most) (hm2 : most ≤ 9223372036854775807) (hH : Hp w P (A ++ (Ad ++ F))) :
    Calls Tryz.prog 43 #[ptr s, .int .i64 o, .int .i64 most] w fun e w' =>
      ∃ v out P' A', e = .returned (.tuple #[v, .nilIface]) ∧ Sub P P' ∧ BtsM P' v (rdGo o most G.l [] 0) out A' ∧ Hp w' P' (A' ++ (A ++ (Ad ++ F))) := by
  have hne : G.l ≠ [] := by
    intro h0
    have : G.end_ = G.base := by simp [Sg.end_, h0]
    omega
  obtain ⟨g, c, hc, hpl⟩ := hG.places hne
  have i1 : ¬ (o < (G.base : Int)) := by omega
  have i2 : ¬ (G.end_ ≤ o) := by omega
  obtain ⟨en, hen⟩ : ∃ en, G.end_ = en := ⟨_, rfl⟩
  rw [hen] at i2 ho2
  obtain ⟨lv, -, -, d2, -, -, -, -, -⟩ := hG.cells hH
  obtain ⟨d4, -⟩ := hpl w P _ hH
  have H0 := Lib.hid hH
  have HN := Lib.hid hen
  have HP := Lib.hid hpl
  have HFL := Lib.hid hfl
  have HNE := Lib.hid hne
  obtain ⟨R, hR⟩ : ∃ R, rdGo o most G.l [] 0 = R := ⟨_, rfl⟩
  rw [hR]
  have HRR := Lib.hid hR
  clear hH hen hpl hfl hR hne
  go_enter Tryz.func43, Tryz.ntmps43
  go_wp2_with fail
  refine (end_any hG hW H0.out).mono ?_
  rintro e w1 ⟨rfl, hH1⟩
  obtain ⟨lv2, -, -, k2, -, -, -, -, -⟩ := hG.cells hH1
  obtain ⟨k4, -⟩ := HP.out w1 P _ hH1
  rw [HN.out]
  have H1 := Lib.hid hH1
  clear hH1
  go_wp2_with fail
  go_loopg [8, 9, 33] G.l.length (fun m vo vs vi wr => RdRel G P A Ad F o most R m vo vs vi wr)
  case atStart => exact ⟨0, [], [], 0, P, [], by omega, rfl, rfl, Sub.refl P, BtsM.nil P, by simp, by omega, .inl rfl, by rw [List.drop_zero]; exact HRR.out, H1.out⟩
  case round =>
    obtain ⟨k, L, out, sum, P1, Ao, hk, rfl, rfl, hs1, hbm, hLk, hsm, hinv, hgo, hHr⟩ := hrel
    obtain ⟨va, vc, rfl⟩ := hbm.row.shape
    by_cases hlt : k < G.l.length
    · obtain ⟨gj, rfl⟩ : ∃ x, gk = x + 1 := ⟨gk - 1, by omega⟩
      obtain ⟨n, hn⟩ : ∃ n, n = G.l.length := ⟨_, rfl⟩
      obtain ⟨x, hx⟩ : ∃ x, G.l[k] = x := ⟨_, rfl⟩
      obtain ⟨p, hp⟩ : ∃ p, sizes (G.l.take k) = p := ⟨_, rfl⟩
      have hmem : x ∈ G.l := by rw [← hx]; exact List.getElem_mem hlt
      have hok := hW.ok x hmem
      have hby := hW.by_ x hmem
      have hH2 := Hp.mid hHr
      obtain ⟨-, hpc⟩ := HP.out wr P1 _ hH2
      have hpc := hpc k hlt
      rw [hx, hp] at hpc
      have q0 := hpc 0 _ rfl
      have q1 := hpc 1 _ rfl
      have q2 := hpc 2 _ rfl
      have q3 := hpc 3 _ rfl
      have q4 := hpc 4 _ rfl
      have q5 := hpc 5 _ rfl
      rw [Nat.add_zero] at q0
      have hgo2 : rdGo o most (x :: G.l.drop (k + 1)) L sum = R := by rw [← hgo, List.drop_eq_getElem_cons hlt, hx]
      have hwk : IntKind.i64.wrap ((k : Int) + 1) = ((k + 1 : Nat) : Int) := by rw [show (k : Int) + 1 = ((k + 1 : Nat) : Int) from by omega]; exact IntWalk.i64_in _ (by have := hW.len; omega)
      have j1 : (0 : Int) < ((gj + 1 : Nat) : Int) := by omega
      have j2 : (k : Int) < (G.l.length : Int) := by omega
      have j3 : (0 : Int) ≤ (k : Int) := by omega
      have j4 : ((k : Int)).toNat = k := by omega
      have HGO := Lib.hid hgo2
      have HHR := Lib.hid hHr
      have HBM := Lib.hid hbm
      have HS1 := Lib.hid hs1
      have HOK := Lib.hid hok
      have HBY := Lib.hid hby
      have HX := Lib.hid hx
      have HPP := Lib.hid hp
      clear hgo hgo2 hHr hH2 hbm hs1 hpc hmem hx hp hn
      by_cases hA : x.b + (x.r.length : Int) ≤ o
      · go_wp2_with fail
        go_roundg gj
        case measure => omega
        case rel =>
          refine ⟨k + 1, L, out, sum, P1, Ao, by omega, rfl, by simp, HS1.out, HBM.out, by omega, by omega, hinv, ?_, (HHR.out.alloc _).tail⟩
          have := HGO.out
          unfold rdGo at this
          rwa [if_pos hA] at this
      · obtain ⟨y, hy⟩ : ∃ y, fromL x o = y := ⟨_, rfl⟩
        have hyok : BtOk y := by rw [← hy]; exact fromL_ok x HOK.out o (by omega)
        have hyby : BtBy y := by rw [← hy]; exact fromL_by x HBY.out o
        obtain ⟨hfx, hfn⟩ := flat_at G.l k hlt
        rw [HX.out, HPP.out, ← HFL.out] at hfx hfn
        have HFX := Lib.hid hfx
        have HY := Lib.hid hy
        have HYO := Lib.hid hyok
        have HYB := Lib.hid hyby
        have hH3 : Hp (wr.alloc (.cells #[.int .i64 x.b, .int .i64 (x.b + x.r.length), .int .i64 p, .int .i64 (szB x), .int .i64 x.e, .int .i64 (tmax x)] 112)) P1 (A ++ (Ad ++ ((wr.heap.size, .cells #[.int .i64 x.b, .int .i64 (x.b + x.r.length), .int .i64 p, .int .i64 (szB x), .int .i64 x.e, .int .i64 (tmax x)] 112 (0, 0)) :: (Ao ++ F)))) := by
          have h1 := HHR.out.alloc (.cells #[.int .i64 x.b, .int .i64 (x.b + x.r.length), .int .i64 p, .int .i64 (szB x), .int .i64 x.e, .int .i64 (tmax x)] 112)
          have h2 := Hp.mid (A := (wr.heap.size, Obj.cells #[.int .i64 x.b, .int .i64 (x.b + x.r.length), .int .i64 p, .int .i64 (szB x), .int .i64 x.e, .int .i64 (tmax x)] 112 (0, 0)) :: Ao) (B := A ++ Ad) (C := F) (by simpa [List.append_assoc] using h1)
          simpa [List.append_assoc] using h2
        have H3 := Lib.hid hH3
        clear hfx hy hyok hyby hH3
        go_wp2_with fail
        refine (batch_ok (C.sub HS1.out) hG (hD.sub HS1.out) x HOK.out HBY.out p hs b h f hff hfb hfn HFX.out H3.out).mono ?_
        rintro e w3 ⟨v3, P3, rfl, hs3, hp3, hH4⟩
        obtain ⟨r3, rfl, -⟩ := hH4.use hp3
        obtain ⟨ra, rl, rc, rfl⟩ : ∃ a l c, r3 = .slice a l c := by
          obtain ⟨r', h1, h2⟩ := hH4.use hp3
          cases h1
          obtain ⟨a, c, e⟩ := h2.plain.shape
          exact ⟨a, _, c, e⟩
        have H4 := Lib.hid hH4
        have HP4 := Lib.hid hp3
        have HS3 := Lib.hid (HS1.out.trans hs3)
        have HS13 := Lib.hid hs3
        clear hH4 hp3 hs3
        go_wp2_with fail
        obtain ⟨M4, hM4⟩ : ∃ M4, M4 = A ++ (Ad ++ ((wr.heap.size, Obj.cells #[.int .i64 x.b, .int .i64 (x.b + x.r.length), .int .i64 p, .int .i64 (szB x), .int .i64 x.e, .int .i64 (tmax x)] 112 (0, 0)) :: (Ao ++ F))) := ⟨_, rfl⟩
        have hb4 : BtN (w3.alloc (.cells #[.int .i64 x.b, .int .i64 x.e, .slice ra rl rc] 38)) (.agg #[.int .i64 x.b, .int .i64 x.e, .slice ra rl rc]) x (ids ((w3.heap.size, .cells #[.int .i64 x.b, .int .i64 x.e, .slice ra rl rc] 38 (0, 0)) :: M4)) := by
          have h1 := H4.out.use HP4.out
          rw [← hM4] at h1
          exact (h1.more (K := [w3.heap.size]) (by simp)).upd (Upd.of_below (M := []) ((Below.refl _ _).alloc (Nat.le_refl _) _) (Nat.le_refl _)) (by simp)
        have hH5 : Hp (w3.alloc (.cells #[.int .i64 x.b, .int .i64 x.e, .slice ra rl rc] 38)) P3 ((w3.heap.size, .cells #[.int .i64 x.b, .int .i64 x.e, .slice ra rl rc] 38 (0, 0)) :: M4) := by
          rw [hM4]; exact H4.out.alloc _
        refine (from_any x HOK.out o (by omega) (ids ((w3.heap.size, .cells #[.int .i64 x.b, .int .i64 x.e, .slice ra rl rc] 38 (0, 0)) :: M4)) _ hH5.ids_lt _ hb4).mono ?_
        rintro e w5 ⟨⟨v5, rfl, hb5⟩, hbl5⟩
        obtain ⟨P5, hs5, hH6, hp5⟩ := Hp.sealBt (hH5.below hbl5 (Nat.le_refl _)) hb5
        rw [HY.out] at hp5
        obtain ⟨r5, rfl, hr5⟩ := hH6.use hp5
        obtain ⟨sa, sc, rfl⟩ := hr5.plain.shape
        have e0 := (@Hp.cell _ _ _ hH6 w3.heap.size _ _ (0, 0) List.mem_cons_self) (i := 0) rfl
        have e1 := (@Hp.cell _ _ _ hH6 w3.heap.size _ _ (0, 0) List.mem_cons_self) (i := 1) rfl
        have e2 := (@Hp.cell _ _ _ hH6 w3.heap.size _ _ (0, 0) List.mem_cons_self) (i := 2) rfl
        have z0 : w5.frozen? ⟨w3.heap.size, 0, none⟩ = false := Hp.frozen hH6 List.mem_cons_self 0
        have z1 : w5.frozen? ⟨w3.heap.size, 1, none⟩ = false := Hp.frozen hH6 List.mem_cons_self 1
        have z2 : w5.frozen? ⟨w3.heap.size, 2, none⟩ = false := Hp.frozen hH6 List.mem_cons_self 2
        have H6 := Lib.hid hH6
        have HP6 := Lib.hid hp5
        have HS5 := Lib.hid (HS3.out.trans hs5)
        have HS15 := Lib.hid (HS13.out.trans hs5)
        have HM4 := Lib.hid hM4
        clear hH5 hH6 hp5 hs5 hb4 hb5 hbl5 hr5 hM4
        go_wp2_with fail
        have H7 := Lib.hid (((H6.out.set 0 (.int .i64 y.b)).set 1 (.int .i64 y.e)).set 2 (.slice sa y.r.length sc))
        refine (size_any ((C.sub HS5.out).all 3 (by decide)) ((C.sub HS5.out).all 4 (by decide)) y (by have := HYO.out.n64; omega) HYB.out _ _ (H7.out.use (C.sub HS5.out).errs) (H7.out.use (HP6.out.imp fun _ h => h.plain))).mono ?_
        rintro e w6 ⟨rfl, hbl6⟩
        rw [sizeB_ok y HYO.out]
        have hH8 := H7.out.below hbl6 (Nat.le_refl _)
        have g0 := (@Hp.cell _ _ _ hH8 w3.heap.size _ _ (0, 0) List.mem_cons_self) (i := 0) rfl
        have g1 := (@Hp.cell _ _ _ hH8 w3.heap.size _ _ (0, 0) List.mem_cons_self) (i := 1) rfl
        have g2 := (@Hp.cell _ _ _ hH8 w3.heap.size _ _ (0, 0) List.mem_cons_self) (i := 2) rfl
        have hH9 : Hp w6 P5 (Ao ++ (A ++ (Ad ++ F))) := by
          have h1 := hH8.tail
          rw [HM4.out] at h1
          have h2 := Hp.mid (A := A ++ Ad) (B := [(wr.heap.size, Obj.cells #[.int .i64 x.b, .int .i64 (x.b + x.r.length), .int .i64 p, .int .i64 (szB x), .int .i64 x.e, .int .i64 (tmax x)] 112 (0, 0))]) (C := Ao ++ F) (by simpa [List.append_assoc] using h1)
          have h3 := h2.tail
          have h4 := Hp.mid (A := A ++ Ad) (B := Ao) (C := F) (by simpa [List.append_assoc] using h3)
          simpa [List.append_assoc] using h4
        have hsum : sum ≤ 38816000000 := by have := hW.len; omega
        have hsz := szB_le y HYO.out
        obtain ⟨sz, hszd⟩ : ∃ sz, szB y = sz := ⟨_, rfl⟩
        rw [hszd] at hsz ⊢
        have hw2 : IntKind.i64.wrap (most - (sum : Int)) = most - (sum : Int) := IntWalk.i64_in _ (by omega)
        have hw3 : IntKind.i64.wrap ((sum : Int) + (sz : Int)) = (sum : Int) + (sz : Int) := IntWalk.i64_in _ (by omega)
        have hgo3 := HGO.out
        unfold rdGo at hgo3
        rw [if_neg (by omega), HY.out, hszd] at hgo3
        have HGO3 := Lib.hid hgo3
        have H8 := Lib.hid hH8
        have H9 := Lib.hid hH9
        have HSZ := Lib.hid hszd
        clear hbl6 hH8 hH9 hszd hgo3
        have HLN : Hid (L.length ≤ 1000000000) := by have := hW.len; show _ ≤ _; omega
        by_cases hB : L = []
        · have hL0 : L.length = 0 := by rw [hB]; rfl
          have HR0 : Hid (RowM 38 3 (.slice va 0 vc) 0 (btsV out) Ao) := by have := HBM.out.row; rw [hL0] at this; exact this
          by_cases hD1 : most < (sum : Int) + (sz : Int)
          · go_wp2_with (at_builtin; refine wpList_push_hp rfl _ _ _ rfl 38 _ 3 40 Tryz.underlying33 infoBt rfl (by omega) (.slice va 0 vc) 0 (btsV out) rfl H9.out HR0.out #[.int .i64 y.b, .int .i64 y.e, .slice sa y.r.length sc] rfl rfl (by intro u hu; simp at hu; rcases hu with rfl | rfl | rfl <;> rfl) (by omega) (by omega) ?_)
            intro ga ca w7 A7 hr7 hH7
            have hbm7 : BtsM P5 (.slice (some ⟨ga, 0, none⟩) 1 ca) (L ++ [y]) (out ++ [(y, .slice sa y.r.length sc)]) A7 :=
              ⟨by rw [List.map_append, HBM.out.map]; rfl, by rw [btsV_app, List.length_append, hL0]; exact hr7, fun wq hq p hpm => by
                rcases List.mem_append.1 hpm with h1 | h1
                · exact (HBM.out.sub HS15.out).rs wq hq p h1
                · rw [List.mem_singleton.1 h1]
                  obtain ⟨rr, h2, h3⟩ := HP6.out wq hq
                  cases h2
                  exact h3.sub (fun k hk => by cases hk)⟩
            have HB7 := Lib.hid hbm7
            have H77 := Lib.hid hH7
            clear hr7 hH7 hbm7
            go_wp2_with fail
            have hRL : L ++ [y] = R := by
              have := HGO3.out
              rwa [if_neg (by simp [hB]), if_pos hD1] at this
            subst hRL
            exact bodyPost_ret (v := .tuple #[.slice (some ⟨ga, 0, none⟩) 1 ca, .nilIface]) (by simp [results, Tryz.results43, go_sem]) rfl ⟨_, _, P5, A7, rfl, HS5.out, HB7.out, H77.out⟩
          · go_wp2_with (at_builtin; refine wpList_push_hp rfl _ _ _ rfl 38 _ 3 40 Tryz.underlying33 infoBt rfl (by omega) (.slice va 0 vc) 0 (btsV out) rfl H9.out HR0.out #[.int .i64 y.b, .int .i64 y.e, .slice sa y.r.length sc] rfl rfl (by intro u hu; simp at hu; rcases hu with rfl | rfl | rfl <;> rfl) (by omega) (by omega) ?_)
            intro ga ca w7 A7 hr7 hH7
            have hbm7 : BtsM P5 (.slice (some ⟨ga, 0, none⟩) 1 ca) (L ++ [y]) (out ++ [(y, .slice sa y.r.length sc)]) A7 :=
              ⟨by rw [List.map_append, HBM.out.map]; rfl, by rw [btsV_app, List.length_append, hL0]; exact hr7, fun wq hq p hpm => by
                rcases List.mem_append.1 hpm with h1 | h1
                · exact (HBM.out.sub HS15.out).rs wq hq p h1
                · rw [List.mem_singleton.1 h1]
                  obtain ⟨rr, h2, h3⟩ := HP6.out wq hq
                  cases h2
                  exact h3.sub (fun k hk => by cases hk)⟩
            have HB7 := Lib.hid hbm7
            have H77 := Lib.hid hH7
            clear hr7 hH7 hbm7
            go_wp2_with fail
            go_roundg gj
            case measure => omega
            case rel =>
              refine ⟨k + 1, L ++ [y], out ++ [(y, .slice sa y.r.length sc)], sum + sz, P5, A7, by omega, by simp, by simp, HS5.out, ?_, by simp; omega, by omega, .inr (by omega), ?_, H77.out⟩
              · exact HB7.out
              · have := HGO3.out
                rwa [if_neg (by simp [hB]), if_neg (Int.not_lt.2 hD1)] at this
        · have hL0 : 0 < L.length := List.length_pos_iff.2 hB
          have hL1 : (0 : Int) < (L.length : Int) := by omega
          by_cases hC : most - (sum : Int) < (sz : Int)
          · go_wp2_with fail
            have hRL : L = R := by
              have := HGO3.out
              rwa [if_pos ⟨hB, hC⟩] at this
            subst hRL
            exact bodyPost_ret (v := .tuple #[.slice va L.length vc, .nilIface]) (by simp [results, Tryz.results43, go_sem]) rfl ⟨_, out, P5, Ao, rfl, HS5.out, HBM.out.sub HS15.out, H9.out⟩
          · have hC2 : (sz : Int) ≤ most - (sum : Int) := by omega
            by_cases hD1 : most < (sum : Int) + (sz : Int)
            · exact absurd hD1 (by omega)
            · go_wp2_with (at_builtin; refine wpList_push_hp rfl _ _ _ rfl 38 _ 3 40 Tryz.underlying33 infoBt rfl (by omega) (.slice va L.length vc) L.length (btsV out) rfl H9.out HBM.out.row #[.int .i64 y.b, .int .i64 y.e, .slice sa y.r.length sc] rfl rfl (by intro u hu; simp at hu; rcases hu with rfl | rfl | rfl <;> rfl) HLN.out (by omega) ?_)
              intro ga ca w7 A7 hr7 hH7
              have hbm7 : BtsM P5 (.slice (some ⟨ga, 0, none⟩) (L.length + 1) ca) (L ++ [y]) (out ++ [(y, .slice sa y.r.length sc)]) A7 :=
                ⟨by rw [List.map_append, HBM.out.map]; rfl, by rw [btsV_app, List.length_append]; exact hr7, fun wq hq p hpm => by
                  rcases List.mem_append.1 hpm with h1 | h1
                  · exact (HBM.out.sub HS15.out).rs wq hq p h1
                  · rw [List.mem_singleton.1 h1]
                    obtain ⟨rr, h2, h3⟩ := HP6.out wq hq
                    cases h2
                    exact h3.sub (fun k hk => by cases hk)⟩
              have HB7 := Lib.hid hbm7
              have H77 := Lib.hid hH7
              clear hr7 hH7 hbm7
              go_wp2_with fail
              go_roundg gj
              case measure => omega
              case rel =>
                refine ⟨k + 1, L ++ [y], out ++ [(y, .slice sa y.r.length sc)], sum + sz, P5, A7, by omega, by simp, by simp, HS5.out, ?_, by simp; omega, by omega, .inr (by omega), ?_, H77.out⟩
                · exact HB7.out
                · have := HGO3.out
                  rwa [if_neg (fun hh => Int.not_lt.2 hC2 hh.2), if_neg (Int.not_lt.2 hD1)] at this
    · go_wp2_with fail
      have hRL : L = R := by
        have := hgo
        rwa [List.drop_eq_nil_of_le (by omega)] at this
      subst hRL
      exact bodyPost_ret (v := .tuple #[.slice va L.length vc, .nilIface]) (by simp [results, Tryz.results43, go_sem]) rfl ⟨_, out, P1, Ao, rfl, hs1, hbm, hHr⟩
end

end Go.Proofs.YtncjffkpkmjgkaaGreatDoor.Sg

/-! Nm -/
namespace Go.Proofs.YtncjffkpkmjgkaaGreatDoor.Sg
open Go.RowKit Er

/-- A number in so many digits. -/
def digs : Nat → Nat → Nam
  | 0, _ => []
  | k + 1, n => digs k (n / 10) ++ [UInt8.ofNat (48 + n % 10)]
theorem digs_len : ∀ (k n : Nat), (digs k n).length = k
  | 0, _ => rfl
  | k + 1, n => by simp [digs, digs_len k]
theorem digs_zero : ∀ k : Nat, digs k 0 = List.replicate k 48
  | 0 => rfl
  | k + 1 => by rw [digs, Nat.zero_div, digs_zero k, List.replicate_succ']; rfl
theorem digs_dec : ∀ (k n : Nat), n < 10 ^ (k + 1) → Lib.nDigits n ≤ k + 1 ∧ List.replicate (k + 1 - Lib.nDigits n) 48 ++ Lib.decDigits n = digs (k + 1) n
  | 0, n, h => by
    have h' : n < 10 := by simpa using h
    rw [Lib.nDigits_small h', Lib.decDigits_one h']
    refine ⟨by omega, ?_⟩
    simp [digs, Nat.mod_eq_of_lt h']
  | k + 1, n, h => by
    by_cases h' : n < 10
    · rw [Lib.nDigits_small h', Lib.decDigits_one h']
      refine ⟨by omega, ?_⟩
      rw [digs, Nat.div_eq_of_lt h', digs_zero, Nat.mod_eq_of_lt h']
      simp
    · have h2 : n / 10 < 10 ^ (k + 1) := by rw [Nat.pow_succ] at h; omega
      obtain ⟨i1, i2⟩ := digs_dec k (n / 10) h2
      rw [Lib.nDigits_big h', Lib.decDigits, dif_neg h']
      refine ⟨by omega, ?_⟩
      rw [digs, ← i2, show k + 1 + 1 - (Lib.nDigits (n / 10) + 1) = k + 1 - Lib.nDigits (n / 10) from by omega, List.append_assoc]
theorem digs_inj : ∀ (k m n : Nat), m < 10 ^ k → n < 10 ^ k → digs k m = digs k n → m = n
  | 0, m, n, hm, hn, _ => by simp at hm hn; omega
  | k + 1, m, n, hm, hn, h => by
    rw [digs, digs] at h
    obtain ⟨h1, h2⟩ := List.append_inj h (by rw [digs_len, digs_len])
    rw [Nat.pow_succ] at hm hn
    have h3 := digs_inj k (m / 10) (n / 10) (by omega) (by omega) h1
    have h4 : UInt8.ofNat (48 + m % 10) = UInt8.ofNat (48 + n % 10) := by simpa using h2
    have h5 := congrArg UInt8.toNat h4
    simp at h5
    omega
theorem digs_char : ∀ (k n : Nat), (digs k n).all nchar = true
  | 0, _ => rfl
  | k + 1, n => by
    rw [digs, List.all_append, digs_char k, Bool.true_and]
    have : (UInt8.ofNat (48 + n % 10)).toNat = 48 + n % 10 := by simp; omega
    simp only [List.all_cons, List.all_nil, Bool.and_true, nchar, this]
    have h1 : decide (48 ≤ 48 + n % 10 ∧ 48 + n % 10 ≤ 57) = true := by simp; omega
    simp only [h1, Bool.or_true, Bool.true_or]

/-- A segment's name. -/
def segNm (n : Nat) : Nam := [108, 111, 103, 45] ++ digs 13 n
theorem segNm_len (n : Nat) : (segNm n).length = 17 := by simp [segNm, digs_len]
theorem segNm_valid (n : Nat) : vname (segNm n) = true := by
  unfold vname
  rw [segNm_len]
  simp only [segNm, List.all_append, digs_char]
  decide
theorem segNm_inj (m n : Nat) (hm : m ≤ 1099511627776) (hn : n ≤ 1099511627776) (h : segNm m = segNm n) : m = n :=
  digs_inj 13 m n (by omega) (by omega) (List.append_cancel_left h)

theorem wide_bytes (n : Nat) (hn : n ≤ 1099511627776) : ∃ s : ByteArray, s = ⟨(Lib.itoa n).toArray⟩ ∧ s.size ≤ 13 ∧ ∀ c : Nat, c = 13 - s.size → (⟨(Lib.repeatL [48] c).toArray⟩ ++ s : ByteArray) = ⟨(digs 13 n).toArray⟩ := by
  refine ⟨_, rfl, ?_, ?_⟩
  · have := (digs_dec 12 n (by omega)).1
    have e : Lib.itoa (n : Int) = Lib.decDigits n := by simp [Lib.itoa]
    rw [e]
    simp only [ByteArray.size, List.size_toArray, Lib.decDigits_length]
    omega
  · rintro c rfl
    have h2 := (digs_dec 12 n (by omega)).2
    have e : Lib.itoa (n : Int) = Lib.decDigits n := by simp [Lib.itoa]
    rw [← h2, e]
    simp only [ByteArray.size, List.size_toArray, Lib.decDigits_length]
    have e2 := Lib.repeatL_replicate 48 1 (12 + 1 - Lib.nDigits n)
    simp only [List.replicate_one, Nat.mul_one] at e2
    rw [show 13 - Lib.nDigits n = 12 + 1 - Lib.nDigits n from rfl, e2]
    apply ByteArray.ext
    simp

set_option maxRecDepth 100000 in
set_option maxHeartbeats 400000 in
theorem wide_any (n : Nat) (hn : n ≤ 1099511627776) (w : World) (ht : Lib.TabIs Tryz.prog w "internal/strconv.uint64pow10" .u64 Lib.pow10Tab) :
    Calls Tryz.prog 142 #[.int .i64 n, .int .i64 13] w fun e w' => e = .returned (str (digs 13 n)) ∧ Below w.heap.size w w' := by
  obtain ⟨s, hs, hlen, hcat⟩ := wide_bytes n hn
  obtain ⟨c, hc⟩ : ∃ c : Nat, c = 13 - s.size := ⟨_, rfl⟩
  have hcat := hcat c hc
  have hci : (13 : Int) - (s.size : Int) = (c : Int) := by omega
  have h0 : (0 : Int) ≤ 13 - (s.size : Int) := by omega
  have HS := Lib.hid hs
  have HC := Lib.hid hcat
  have HI := Lib.hid hci
  clear hs hc hcat hci
  go_enter Tryz.func142, Tryz.ntmps142
  go_wp2_with fail
  refine (Tryz.strconv_FormatInt_10 (n : Int) (by omega) (by omega) _ ht).mono ?_
  rintro e w1 ⟨rfl, k, os, rfl⟩
  rw [← HS.out]
  go_wp2_with fail
  rw [Int.max_eq_left h0, HI.out]
  have hc13 : c ≤ 13 := by have := HI.out; omega
  have hsz : (⟨#[48]⟩ : ByteArray).size * c ≤ 140737488355328 := by show 1 * c ≤ _; omega
  have hl2 : ¬ 9223372036854775807 < (Lib.repeatL [48] c).length + s.size := by rw [Lib.repeatL_length]; simp; omega
  have hb1 : Below w.heap.size w (Sort.grow (w.drewN k) os) := Lib.below_grow _ _ (Nat.le_refl _) k os
  refine (Tryz.strings_Repeat ⟨#[48]⟩ c _ (by omega) hsz).mono ?_
  rintro e w2 ⟨rfl, hb2⟩
  go_wp2_with fail
  go_ret
  exact ⟨congrArg (fun b => Ending.returned (Value.string b)) HC.out, hb1.trans (hb2.mono hb1.size)⟩

set_option maxRecDepth 100000 in
set_option maxHeartbeats 400000 in
theorem segment_any (n : Nat) (hn : n ≤ 1099511627776) (w : World) (ht : Lib.TabIs Tryz.prog w "internal/strconv.uint64pow10" .u64 Lib.pow10Tab) :
    Calls Tryz.prog 109 #[.int .i64 n] w fun e w' => e = .returned (str (segNm n)) ∧ Below w.heap.size w w' := by
  go_enter Tryz.func109, Tryz.ntmps109
  go_wp2_with fail
  refine (nright_yes n (by omega) (by omega) _).mono ?_
  rintro e w1 ⟨rfl, rfl⟩
  go_wp2_with fail
  refine (wide_any n hn _ ht).mono ?_
  rintro e w1 ⟨rfl, hb1⟩
  obtain ⟨dg, hdg⟩ : ∃ dg, dg = digs 13 n := ⟨_, rfl⟩
  have hdl : ¬ 9223372036854775807 < 4 + dg.length := by rw [hdg, digs_len]; omega
  have hdl2 : dg.length = 13 := by rw [hdg, digs_len]
  rw [← hdg]
  have HD := Lib.hid hdg
  have HL := Lib.hid hdl2
  clear hdg hdl2
  go_wp2_with fail
  go_ret
  have : (⟨#[108, 111, 103, 45]⟩ ++ ⟨dg.toArray⟩ : ByteArray) = ⟨(segNm n).toArray⟩ := by apply ByteArray.ext; simp [segNm, HD.out]
  exact ⟨congrArg (fun b => Ending.returned (Value.string b)) this, hb1⟩

end Go.Proofs.YtncjffkpkmjgkaaGreatDoor.Sg

/-! Gh -/
namespace Go.Proofs.YtncjffkpkmjgkaaGreatDoor.Sg
open Go.RowKit Er Go.Maps

section
variable {S : List Nat} {E : Nat → Addr} {B : Nat} {P : Pm} {d : Nat} {D : Dk} {A F : Mm} {w : World}

def ixCells (every : Int) : Array Value := #[.int .i64 every, .slice none 0 0, .slice none 0 0, .int .i64 (-9223372036854775808)]
theorem ixnew_ok (every : Nat) (h1 : 1 ≤ every) (h2 : every ≤ 1048576) : Calls Tryz.prog 79 #[.int .i64 every] w fun e w' => e = .returned (.tuple #[ptr w.heap.size, .nilIface]) ∧ w' = w.alloc (.cells (ixCells every) 170) := by
  go_enter Tryz.func79, Tryz.ntmps79
  go_wp2_with fail
  go_ret2
  exact ⟨rfl, rfl⟩
theorem ixnew_bad (hE : Errs S w E B) (h4 : 4 ∈ S) (every : Int) (h : every < 1 ∨ 1048576 < every) : Calls Tryz.prog 79 #[.int .i64 every] w fun e w' => e = .returned (.tuple #[.pointer none, .iface 289 (.pointer (some (E 4)))]) ∧ ∃ n, w' = w.drewN n := by
  have ce : w.cell? ⟨0, 0, none⟩ = some (.iface 289 (.pointer (some (E 4)))) := hE.at_ 4 h4
  by_cases h1 : every < 1
  · go_enter Tryz.func79, Tryz.ntmps79
    go_wp2_with fail
    go_quiet (fail)
    go_wp2_with fail
    go_ret2
    exact ⟨rfl, _, rfl⟩
  · have h2 : 1048576 < every := by omega
    go_enter Tryz.func79, Tryz.ntmps79
    go_wp2_with fail
    go_quiet (fail)
    go_wp2_with fail
    go_ret2
    exact ⟨rfl, _, rfl⟩

/-- A segment without batches. -/
def sg0 (d base every : Nat) : Sg := ⟨d, segNm base, base, every, [], 0⟩

set_option maxRecDepth 100000 in
set_option maxHeartbeats 400000 in
theorem fresh_ok (C : Ctx S E B P) (base : Nat) (hb : base ≤ 1099511627776) (every : Nat) (h1 : 1 ≤ every) (h2 : every ≤ 1048576) (hH : Hp w P F) :
    Calls Tryz.prog 55 #[ptr d, .int .i64 base, .int .i64 every] w fun e w' => ∃ s A, e = .returned (.tuple #[ptr s, .nilIface]) ∧ SgM s (sg0 d base every) A ∧ Hp w' P (A ++ F) := by
  have H := Lib.hid hH
  clear hH
  go_enter Tryz.func55, Tryz.ntmps55
  go_wp2_with fail
  refine (ixnew_ok every h1 h2).mono ?_
  rintro e w1 ⟨rfl, rfl⟩
  have hH1 := (H.out.alloc (.cells (ixCells every) 170)).tail
  have H1 := Lib.hid hH1
  clear hH1
  go_wp2_with fail
  refine (segment_any base hb _ (H1.out.use C.tab)).mono ?_
  rintro e w2 ⟨rfl, hb2⟩
  have hH2 := H1.out.below hb2 (Nat.le_refl _)
  obtain ⟨nm, hnm⟩ : ∃ nm, nm = segNm base := ⟨_, rfl⟩
  rw [← hnm]
  have HN := Lib.hid hnm
  have H2 := Lib.hid hH2
  clear hb2 hH2 hnm
  go_wp2_with fail
  go_ret2
  refine ⟨w2.heap.size, [(w2.heap.size, Obj.cells (sgCells (sg0 d base every) (.slice none 0 0)) 104 (0, 0))], rfl, ⟨_, [], rfl, rowM_nil _ _⟩, ?_⟩
  have := H2.out.alloc (.cells #[ptr d, str nm, .int .i64 base, .int .i64 every, .slice none 0 0, .int .i64 0] 104)
  rw [HN.out] at this ⊢
  exact this

set_option maxRecDepth 100000 in
set_option maxHeartbeats 400000 in
theorem fresh_bad (C : Ctx S E B P) (base every : Int) (h : base < 0 ∨ 1099511627776 < base ∨ every < 1 ∨ 1048576 < every) (hH : Hp w P F) :
    Calls Tryz.prog 55 #[ptr d, .int .i64 base, .int .i64 every] w fun e w' => e = .returned (.tuple #[.pointer none, .iface 289 (.pointer (some (E 4)))]) ∧ Hp w' P F := by
  have ce : w.cell? ⟨0, 0, none⟩ = some (.iface 289 (.pointer (some (E 4)))) := (hH.use C.errs).at_ 4 (C.all 4 (by decide))
  by_cases h1 : base < 0
  · go_enter Tryz.func55, Tryz.ntmps55
    go_wp2_with fail
    go_quiet (fail)
    go_wp2_with fail
    go_ret2
    exact ⟨rfl, hH.drewN _⟩
  · by_cases h2 : 1099511627776 < base
    · go_enter Tryz.func55, Tryz.ntmps55
      go_wp2_with fail
      go_quiet (fail)
      go_wp2_with fail
      go_ret2
      exact ⟨rfl, hH.drewN _⟩
    · go_enter Tryz.func55, Tryz.ntmps55
      go_wp2_with fail
      refine (ixnew_bad (hH.use C.errs) (C.all 4 (by decide)) every (by omega)).mono ?_
      rintro e w1 ⟨rfl, n, rfl⟩
      go_wp2_with fail
      go_ret2
      exact ⟨rfl, hH.drewN _⟩

/-- The disk behind a segment is made. -/
def Dk.made (D : Dk) (s : Nam) (b : Nat) : Dk := ((D.create s b).sync ⟨b, D.n + 1, [], 0⟩).sdir

set_option maxRecDepth 100000 in
set_option maxHeartbeats 400000 in
theorem screate_ok (C : Ctx S E B P) (hD : DkM P d D A) (hI : DkI D) (base : Nat) (hb : base ≤ 1099511627776) (every : Nat) (h1 : 1 ≤ every) (h2 : every ≤ 1048576)
    (hl : D.look (segNm base) = none) (hn : D.n ≤ 1000000) (hnl : D.nm.length < 1000000) (hc : D.ch.length ≤ 1000000) (hH : Hp w P (A ++ F)) :
    Calls Tryz.prog 90 #[ptr d, .int .i64 base, .int .i64 every] w fun e w' => ∃ s b As A', e = .returned (.tuple #[ptr s, .nilIface]) ∧ SgM s (sg0 d base every) As ∧ DkM P d (D.made (segNm base) b) A' ∧
      ((D.create (segNm base) b).fl.map (·.blk)).Nodup ∧ Hp w' P (As ++ (A' ++ F)) := by
  obtain ⟨nm, hnm⟩ : ∃ nm, nm = segNm base := ⟨_, rfl⟩
  have hnl17 : nm.length ≤ 1099511627776 := by rw [hnm, segNm_len]; omega
  have hv : vname nm = true := by rw [hnm]; exact segNm_valid base
  rw [← hnm] at hl
  have hsg : sg0 d base every = ⟨d, nm, base, every, [], 0⟩ := by rw [hnm]; rfl
  rw [hsg, ← hnm]
  have HG : Hid (sg0 d base every = ⟨d, nm, base, every, [], 0⟩) := hsg
  have H := Lib.hid hH
  have HV := Lib.hid hv
  have HL := Lib.hid hl
  clear hH hnm hsg hv hl
  go_enter Tryz.func90, Tryz.ntmps90
  go_wp2_with fail
  refine (fresh_ok (d := d) C base hb every h1 h2 H.out).mono ?_
  rintro e w1 ⟨s, As, rfl, hG, hH1⟩
  rw [HG.out] at hG
  obtain ⟨lv, -, k1, -, -, -, -⟩ := hG.cells hH1
  have H1 := Lib.hid hH1
  clear hH1
  go_wp2_with fail
  refine (create_ok C hD (Hp.mid H1.out) hI.ok nm HV.out (look_none hI.w HL.out) hn hnl hc).mono ?_
  rintro e w2 ⟨rfl, b, A2, hD2, hH2⟩
  have hnd := hD2.blks_nd hH2
  have hI2 := create_I hI HL.out hnd
  have hlk : (D.create nm b).look nm = some ⟨b, D.n + 1, [], 0⟩ := by rw [create_look hI HL.out hnd, if_pos rfl]
  have hH3 := Hp.mid hH2
  obtain ⟨lv2, -, k2, -, -, -, -⟩ := hG.cells hH3
  have H3 := Lib.hid hH3
  have HK := Lib.hid hlk
  have HND := Lib.hid hnd
  clear hH2 hH3 hlk hnd k1
  go_wp2_with fail
  refine (dsync_ok C hD2 (Hp.mid H3.out) nm hnl17 b (hI2.find_ok HK.out) ⟨b, D.n + 1, [], 0⟩ (look_some HK.out).2).mono ?_
  rintro e w3 ⟨rfl, A3, hD3, hH3⟩
  have hI3 := sync_I hI2 ⟨b, D.n + 1, [], 0⟩
  have H4 := Lib.hid (Hp.mid hH3)
  clear hH3 k2
  go_wp2_with fail
  refine (sdir_ok C hD3 (Hp.mid H4.out) hI3.ok).mono ?_
  rintro e w4 ⟨rfl, A4, hD4, hH4⟩
  have H5 := Lib.hid (Hp.mid hH4)
  clear hH4
  go_wp2_with fail
  go_ret2
  exact ⟨s, b, As, A4, rfl, hG, hD4, HND.out, H5.out⟩

theorem made_I (hI : DkI D) {nm : Nam} (hl : D.look nm = none) {b : Nat} (hnd : ((D.create nm b).fl.map (·.blk)).Nodup) : DkI (D.made nm b) :=
  sdir_I (sync_I (create_I hI hl hnd) _)
theorem made_look (hI : DkI D) {nm : Nam} (hl : D.look nm = none) {b : Nat} (hnd : ((D.create nm b).fl.map (·.blk)).Nodup) (s : Nam) :
    (D.made nm b).look s = if s = nm then some ⟨b, D.n + 1, [], 0⟩ else D.look s := by
  have hI2 := create_I hI hl hnd
  have hlk : (D.create nm b).look nm = some ⟨b, D.n + 1, [], 0⟩ := by rw [create_look hI hl hnd, if_pos rfl]
  unfold Dk.made
  rw [sdir_look (sync_I hI2 _), sync_look hI2 hlk]
  split
  · rfl
  · rename_i h; rw [create_look hI hl hnd, if_neg h]
theorem made_used (hI : DkI D) {nm : Nam} (hl : D.look nm = none) {b : Nat} (hnd : ((D.create nm b).fl.map (·.blk)).Nodup) : (D.made nm b).used = D.used := by
  have hI2 := create_I hI hl hnd
  have hlk : (D.create nm b).look nm = some ⟨b, D.n + 1, [], 0⟩ := by rw [create_look hI hl hnd, if_pos rfl]
  unfold Dk.made
  rw [sdir_used (sync_I hI2 _), sync_used hI2 hlk, create_used hI hl hnd]
theorem made_room (hI : DkI D) {nm : Nam} (hl : D.look nm = none) {b : Nat} (hnd : ((D.create nm b).fl.map (·.blk)).Nodup) :
    (D.made nm b).room = D.room ∧ (D.made nm b).nm.length = D.nm.length + 1 ∧ (D.made nm b).n = D.n + 1 ∧ (D.made nm b).ch.length = 0 := by
  have hI2 := create_I hI hl hnd
  obtain ⟨h1, h2, h3, -⟩ := create_room hI hl b
  have s1 := sync_same hI2 ⟨b, D.n + 1, [], 0⟩
  have s2 := sdir_same (sync_I hI2 ⟨b, D.n + 1, [], 0⟩)
  exact ⟨(s2.room.trans s1.room).trans h1, (s2.nml.trans s1.nml).trans h2, (s2.n.trans s1.n).trans h3, rfl⟩
end

end Go.Proofs.YtncjffkpkmjgkaaGreatDoor.Sg
