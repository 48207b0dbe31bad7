/- A log's segments in memory; one of them brought to the front; Log.last, Start, End. Epochs and where they begin; how batches are laid into segments; a log on a disk: plain. seg.Pairs. Log.Pairs, Log.epoch. A log on a disk, when one of its segments turns, or a new one comes behind: plain. Log.Segs, Log.Read. Log.Begin; a segment made, in a log's words. Log.Append of a batch that follows. -/
import Derived.Test.YtncjffkpkmjgkaaGreatDoorMg
import Derived.Test.YtncjffkpkmjgkaaGreatDoorMi
import Derived.Test.YtncjffkpkmjgkaaGreatDoorMc

/-! Ha -/
namespace Go.Proofs.YtncjffkpkmjgkaaGreatDoor.Sg
open Go.RowKit Er Go.Maps

/-- A log: its disk, how great a segment may be, how far marks are apart, its segments with their blocks. -/
structure Hl where
  d : Nat
  seg : Nat
  every : Nat
  L : List (Nat × Sg)

def hlCells (H : Hl) (lv : Value) : Array Value := #[ptr H.d, .int .i64 H.seg, .int .i64 H.every, lv]
def SgsM : List (Nat × Sg) → Mm → Prop
  | [], A => A = []
  | p :: l, A => ∃ A1 A2, A = A1 ++ A2 ∧ SgM p.1 p.2 A1 ∧ SgsM l A2
theorem SgsM.app : ∀ {l1 l2 : List (Nat × Sg)} {A : Mm}, SgsM (l1 ++ l2) A → ∃ A1 A2, A = A1 ++ A2 ∧ SgsM l1 A1 ∧ SgsM l2 A2
  | [], _, A, h => ⟨[], A, rfl, rfl, h⟩
  | p :: l1, l2, A, ⟨B1, B2, h1, h2, h3⟩ => by
    obtain ⟨A1, A2, rfl, h4, h5⟩ := SgsM.app h3
    exact ⟨B1 ++ A1, A2, by rw [h1, List.append_assoc], ⟨B1, A1, rfl, h2, h4⟩, h5⟩
theorem SgsM.join : ∀ {l1 l2 : List (Nat × Sg)} {A1 A2 : Mm}, SgsM l1 A1 → SgsM l2 A2 → SgsM (l1 ++ l2) (A1 ++ A2)
  | [], _, _, _, h, h' => by cases (show _ = [] from h); exact h'
  | p :: l1, l2, _, _, ⟨B1, B2, h1, h2, h3⟩, h' => ⟨B1, B2 ++ _, by rw [h1, List.append_assoc], h2, SgsM.join h3 h'⟩
theorem SgsM.one {s : Nat} {G : Sg} {A : Mm} (h : SgM s G A) : SgsM [(s, G)] A := ⟨A, [], by simp, h, rfl⟩

def ptrsL (l : List (Nat × Sg)) : List Value := l.map fun p => ptr p.1
/-- A log's blocks, its own one ahead. -/
def HlM (h : Nat) (H : Hl) (A : Mm) : Prop := ∃ lv Al As, A = (h, Obj.cells (hlCells H lv) 119 (0, 0)) :: (Al ++ As) ∧ RowM 41 1 lv H.L.length (ptrsL H.L) Al ∧ SgsM H.L As

theorem perm_mid (X Y Z : Mm) : List.Perm (X ++ (Y ++ Z)) (Y ++ (X ++ Z)) := by
  rw [← List.append_assoc, ← List.append_assoc]; exact List.perm_append_comm.append_right Z

section
variable {P : Pm} {h : Nat} {H : Hl} {A F : Mm} {w : World}

/-- A segment is brought to the front; whatever becomes of it, it is put back. -/
theorem HlM.focus (hM : HlM h H A) {l1 l2 : List (Nat × Sg)} {s : Nat} {G : Sg} (hL : H.L = l1 ++ (s, G) :: l2) :
    ∃ A1 R, SgM s G A1 ∧ (∀ F, List.Perm (A ++ F) (A1 ++ (R ++ F))) ∧
      ∀ G' A1', SgM s G' A1' → ∃ A', HlM h { H with L := l1 ++ (s, G') :: l2 } A' ∧ ∀ F, List.Perm (A1' ++ (R ++ F)) (A' ++ F) := by
  obtain ⟨lv, Al, As, rfl, hr, hs⟩ := hM
  rw [hL] at hs
  obtain ⟨B1, B2, rfl, h1, A1, B3, rfl, h2, h3⟩ := hs.app
  refine ⟨A1, (h, Obj.cells (hlCells H lv) 119 (0, 0)) :: (Al ++ (B1 ++ B3)), h2, fun F => ?_, fun G' A1' hG' => ?_⟩
  · have := perm_mid ((h, Obj.cells (hlCells H lv) 119 (0, 0)) :: (Al ++ B1)) A1 (B3 ++ F)
    simpa [List.append_assoc] using this
  · refine ⟨(h, Obj.cells (hlCells H lv) 119 (0, 0)) :: (Al ++ (B1 ++ (A1' ++ B3))), ⟨lv, Al, _, rfl, ?_, h1.join ⟨A1', B3, rfl, hG', h3⟩⟩, fun F => ?_⟩
    · have e1 : (l1 ++ (s, G') :: l2).length = H.L.length := by rw [hL]; simp
      have e2 : ptrsL (l1 ++ (s, G') :: l2) = ptrsL H.L := by rw [hL]; simp [ptrsL]
      show RowM _ 1 lv (l1 ++ (s, G') :: l2).length (ptrsL (l1 ++ (s, G') :: l2)) Al
      rw [e1, e2]; exact hr
    · have := (perm_mid ((h, Obj.cells (hlCells H lv) 119 (0, 0)) :: (Al ++ B1)) A1' (B3 ++ F)).symm
      simpa [List.append_assoc] using this

/-- A log's cells, and where its segments lie. -/
theorem HlM.at_ (hM : HlM h H A) : ∃ a c, H.L.length ≤ c ∧ ∀ w P F, Hp w P (A ++ F) → w.cell? ⟨h, 0, none⟩ = some (ptr H.d) ∧ w.cell? ⟨h, 1, none⟩ = some (.int .i64 H.seg) ∧ w.cell? ⟨h, 2, none⟩ = some (.int .i64 H.every) ∧
    w.cell? ⟨h, 3, none⟩ = some (.slice a H.L.length c) ∧ h < w.heap.size ∧ (∀ i, w.frozen? ⟨h, i, none⟩ = false) ∧
    ∀ (k : Nat) (hk : k < H.L.length), ∃ g, a = some ⟨g, 0, none⟩ ∧ w.cell? ⟨g, k, none⟩ = some (ptr (H.L[k]).1) := by
  obtain ⟨lv, Al, As, rfl, hr, hs⟩ := hM
  have hc : ∃ a c, lv = .slice a H.L.length c ∧ H.L.length ≤ c := by
    rcases hr.2 with ⟨h1, h2, h3⟩ | ⟨g, cap, cur, h1, h2, -⟩
    · exact ⟨none, 0, by rw [h1, h2], by omega⟩
    · exact ⟨_, cap, h1, h2⟩
  obtain ⟨a, c, rfl, hc⟩ := hc
  refine ⟨a, c, hc, fun w P F hH => ?_⟩
  have hm : (h, Obj.cells (hlCells H (.slice a H.L.length c)) 119 (0, 0)) ∈ (h, Obj.cells (hlCells H (.slice a H.L.length c)) 119 (0, 0)) :: (Al ++ As) ++ F := by simp
  refine ⟨hH.cell hm rfl, hH.cell hm rfl, hH.cell hm rfl, hH.cell hm rfl, hH.lt hm, hH.frozen hm, fun k hk => ?_⟩
  have hH2 : Hp w P (Al ++ ((h, Obj.cells (hlCells H (.slice a H.L.length c)) 119 (0, 0)) :: (As ++ F))) := by
    have := Hp.mid (A := [(h, Obj.cells (hlCells H (.slice a H.L.length c)) 119 (0, 0))]) (B := Al) (C := As ++ F) (by simpa [List.append_assoc] using hH)
    simpa using this
  obtain ⟨g, c', e1, e2, e3⟩ := hr.cell hH2 (j := k) (u := ptr (H.L[k]).1) (by simp [ptrsL, hk])
  cases e1
  exact ⟨g, rfl, e3⟩

set_option maxRecDepth 100000 in
set_option maxHeartbeats 400000 in
theorem hlast_ok (hM : HlM h H A) {l0 : List (Nat × Sg)} {s : Nat} {G : Sg} (hL : H.L = l0 ++ [(s, G)]) (hn : l0.length ≤ 1000000) (hH : Hp w P (A ++ F)) :
    Calls Tryz.prog 64 #[ptr h] w fun e w' => e = .returned (ptr s) ∧ Hp w' P (A ++ F) := by
  obtain ⟨a, c, hc, hat⟩ := hM.at_
  obtain ⟨-, -, -, c3, hlt, -, hk⟩ := hat w P F hH
  have hlen : H.L.length = l0.length + 1 := by rw [hL]; simp
  obtain ⟨g, rfl, cg⟩ := hk l0.length (by omega)
  have hx : H.L[l0.length]'(by omega) = (s, G) := by simp [hL]
  rw [hx] at cg
  obtain ⟨k, hkk⟩ : ∃ k, k = l0.length := ⟨_, rfl⟩
  obtain ⟨n, hnk⟩ : ∃ n, n = H.L.length := ⟨_, rfl⟩
  rw [← hkk] at cg hlen hn
  rw [← hnk] at c3 hc hlen
  have w1 : IntKind.i64.wrap ((n : Int) - 1) = (k : Int) := by rw [show (n : Int) - 1 = (k : Int) from by omega]; exact IntWalk.i64_in _ (by omega)
  have w2 : (0 : Int) ≤ (k : Int) := by omega
  have w3 : (k : Int) < (n : Int) := by omega
  have HH := Lib.hid hH
  clear hH hk hat hL hM hx hnk hkk
  go_enter Tryz.func64, Tryz.ntmps64
  go_wp2_with fail
  go_quiet (fail)
  go_wp2_with fail
  go_ret
  exact ⟨rfl, HH.out.drewN _⟩

def Hl.end_ (H : Hl) : Int := match H.L.getLast? with | none => 0 | some p => p.2.end_
def Hl.start (H : Hl) : Int := match H.L with | [] => 0 | p :: _ => p.2.base
theorem lastHl (l : List (Nat × Sg)) : l = [] ∨ ∃ l0 s G, l = l0 ++ [(s, G)] := by
  rcases List.eq_nil_or_concat l with h | ⟨l0, ⟨s, G⟩, h⟩
  · exact .inl h
  · exact .inr ⟨l0, s, G, by simpa using h⟩

/-- A log's numbers are in their ranges. -/
structure HlW (H : Hl) : Prop where
  g : ∀ p, p ∈ H.L → SgW p.2
  n : H.L.length ≤ 1000000

set_option maxRecDepth 100000 in
set_option maxHeartbeats 400000 in
theorem hend_ok (hM : HlM h H A) (hW : HlW H) (hH : Hp w P (A ++ F)) :
    Calls Tryz.prog 32 #[ptr h] w fun e w' => e = .returned (.int .i64 H.end_) ∧ Hp w' P (A ++ F) := by
  obtain ⟨a, c, hc, hat⟩ := hM.at_
  obtain ⟨-, -, -, c3, hlt, -, -⟩ := hat w P F hH
  rcases lastHl H.L with h0 | ⟨l0, s, G, hL⟩
  · have hE : Hid (H.end_ = 0) := by simp [Hid, Hl.end_, h0]
    rw [h0] at c3
    have HH := Lib.hid hH
    clear hH hat h0 hM
    go_enter Tryz.func32, Tryz.ntmps32
    go_wp2_with fail
    go_ret
    exact ⟨by rw [hE.out]; rfl, HH.out⟩
  · have hE : Hid (H.end_ = G.end_) := by simp [Hid, Hl.end_, hL]
    have hlen : H.L.length = l0.length + 1 := by rw [hL]; simp
    have hn := hW.n
    have hGW := hW.g (s, G) (by rw [hL]; simp)
    obtain ⟨n, hnk⟩ : ∃ n, n = H.L.length := ⟨_, rfl⟩
    rw [← hnk] at c3 hc hlen hn
    have w3 : ¬ (n : Int) = 0 := by omega
    have w4 : ((n : Int) == 0) = false := beq_eq_false_iff_ne.2 (by omega)
    have HH := Lib.hid hH
    have HL := Lib.hid hL
    clear hH hat hL hnk
    go_enter Tryz.func32, Tryz.ntmps32
    go_wp2_with fail
    refine (hlast_ok hM HL.out (by omega) HH.out).mono ?_
    rintro e w1 ⟨rfl, hH1⟩
    obtain ⟨A1, R, hG, hp, -⟩ := hM.focus (l2 := []) HL.out
    have hH2 := hH1.perm (hp F)
    go_wp2_with fail
    refine (end_any hG hGW hH2).mono ?_
    rintro e w2 ⟨rfl, hH3⟩
    go_wp2_with fail
    go_ret
    exact ⟨by rw [hE.out]; rfl, hH3.perm (hp F).symm⟩

set_option maxRecDepth 100000 in
set_option maxHeartbeats 400000 in
theorem hstart_ok (hM : HlM h H A) (hW : HlW H) (hH : Hp w P (A ++ F)) :
    Calls Tryz.prog 29 #[ptr h] w fun e w' => e = .returned (.int .i64 H.start) ∧ Hp w' P (A ++ F) := by
  obtain ⟨a, c, hc, hat⟩ := hM.at_
  obtain ⟨-, -, -, c3, hlt, -, hk⟩ := hat w P F hH
  cases hL : H.L with
  | nil =>
    have hE : Hid (H.start = 0) := by simp [Hid, Hl.start, hL]
    rw [hL] at c3
    have HH := Lib.hid hH
    clear hH hat hk hL hM
    go_enter Tryz.func29, Tryz.ntmps29
    go_wp2_with fail
    go_ret
    exact ⟨by rw [hE.out]; rfl, HH.out⟩
  | cons p l =>
    obtain ⟨s, G⟩ := p
    have hE : Hid (H.start = G.base) := by simp [Hid, Hl.start, hL]
    have hlen : H.L.length = l.length + 1 := by rw [hL]; simp
    have hn := hW.n
    obtain ⟨g, rfl, cg⟩ := hk 0 (by omega)
    have hx : H.L[0]'(by omega) = (s, G) := by simp [hL]
    rw [hx] at cg
    obtain ⟨n, hnk⟩ : ∃ n, n = H.L.length := ⟨_, rfl⟩
    rw [← hnk] at c3 hc hlen hn
    have w3 : ¬ (n : Int) = 0 := by omega
    have w4 : ((n : Int) == 0) = false := beq_eq_false_iff_ne.2 (by omega)
    have w5 : (0 : Int) < (n : Int) := by omega
    have HH := Lib.hid hH
    have HL := Lib.hid hL
    clear hH hat hk hL hnk hx
    go_enter Tryz.func29, Tryz.ntmps29
    go_wp2_with fail
    obtain ⟨A1, R, hG, hp, -⟩ := hM.focus (l1 := []) (l2 := l) HL.out
    have hH2 := HH.out.perm (hp F)
    refine (sbase_any hG hH2).mono ?_
    rintro e w2 ⟨rfl, rfl⟩
    go_wp2_with fail
    go_ret
    exact ⟨by rw [hE.out]; rfl, HH.out⟩
end
end Go.Proofs.YtncjffkpkmjgkaaGreatDoor.Sg

/-! Hb -/
namespace Go.Proofs.YtncjffkpkmjgkaaGreatDoor.Sg
open Go.RowKit Er Go.Maps

/-! ### epochs -/
def prAdd (out : List (Int × Int)) (p : Int × Int) : List (Int × Int) := match out.getLast? with | none => out ++ [p] | some q => if q.1 = p.1 then out else out ++ [p]
def prsP (l : List (Int × Int)) (out : List (Int × Int)) : List (Int × Int) := l.foldl prAdd out
def prsB (l : List Bt) (out : List (Int × Int)) : List (Int × Int) := l.foldl (fun o x => prAdd o (x.e, x.b)) out
theorem prAdd_nil (p : Int × Int) : prAdd [] p = [p] := rfl
theorem prAdd_snoc (l : List (Int × Int)) (q p : Int × Int) : prAdd (l ++ [q]) p = if q.1 = p.1 then l ++ [q] else l ++ [q] ++ [p] := by simp [prAdd]
theorem prAdd_last (out : List (Int × Int)) (p : Int × Int) : ∃ o' q, prAdd out p = o' ++ [q] ∧ q.1 = p.1 := by
  rcases List.eq_nil_or_concat out with rfl | ⟨l, q, h⟩
  · exact ⟨[], p, rfl, rfl⟩
  · rw [List.concat_eq_append] at h
    subst h
    rw [prAdd_snoc]
    split
    · rename_i h; exact ⟨l, q, rfl, h⟩
    · exact ⟨l ++ [q], p, rfl, rfl⟩
theorem prAdd_again (out : List (Int × Int)) (p p' : Int × Int) (h : p.1 = p'.1) : prAdd (prAdd out p) p' = prAdd out p := by
  obtain ⟨o', q, e, hq⟩ := prAdd_last out p
  rw [e, prAdd_snoc, if_pos (hq.trans h)]
theorem prsP_snoc (l : List (Int × Int)) (p : Int × Int) (out : List (Int × Int)) : prsP (l ++ [p]) out = prAdd (prsP l out) p := by simp [prsP]
theorem prsB_snoc (l : List Bt) (x : Bt) (out : List (Int × Int)) : prsB (l ++ [x]) out = prAdd (prsB l out) (x.e, x.b) := by simp [prsB]
theorem prsB_app (l m : List Bt) (out : List (Int × Int)) : prsB (l ++ m) out = prsB m (prsB l out) := by simp [prsB]
theorem prsP_add (acc out : List (Int × Int)) (p : Int × Int) : prsP (prAdd acc p) out = prAdd (prsP acc out) p := by
  rcases List.eq_nil_or_concat acc with rfl | ⟨l, q, h⟩
  · rfl
  · rw [List.concat_eq_append] at h
    subst h
    rw [prAdd_snoc]
    split
    · rename_i h
      rw [prsP_snoc, prAdd_again _ _ _ h]
    · rw [prsP_snoc]
/-- A segment's pairs laid behind others are as if its batches were. -/
theorem prsP_prsB : ∀ (l : List Bt) (acc out : List (Int × Int)), prsP (prsB l acc) out = prsB l (prsP acc out)
  | [], _, _ => rfl
  | x :: l, acc, out => by
    show prsP (prsB l (prAdd acc (x.e, x.b))) out = prsB l (prAdd (prsP acc out) (x.e, x.b))
    rw [prsP_prsB l, prsP_add]
/-- The last pair's epoch is the last batch's. -/
theorem prsB_last (l : List Bt) (x : Bt) (out : List (Int × Int)) : ∃ o' q, prsB (l ++ [x]) out = o' ++ [q] ∧ q.1 = x.e := by
  rw [prsB_snoc]
  exact prAdd_last _ _
theorem prAdd_len (out : List (Int × Int)) (p : Int × Int) : (prAdd out p).length ≤ out.length + 1 := by
  unfold prAdd
  split
  · simp
  · split <;> simp
theorem prsB_len : ∀ (l : List Bt) (out : List (Int × Int)), (prsB l out).length ≤ out.length + l.length
  | [], out => Nat.le_refl _
  | x :: l, out => by
    have h1 := prsB_len l (prAdd out (x.e, x.b))
    have h2 := prAdd_len out (x.e, x.b)
    show (prsB l (prAdd out (x.e, x.b))).length ≤ _
    rw [List.length_cons]
    omega

/-! ### into segments -/
def rollAdd (m : Nat) (st : List (List Bt) × List Bt) (x : Bt) : List (List Bt) × List Bt :=
  if 0 < sizes st.2 ∧ m < sizes st.2 + szB x then (st.1 ++ [st.2], [x]) else (st.1, st.2 ++ [x])
def rollF (m : Nat) (l : List Bt) : List (List Bt) × List Bt := l.foldl (rollAdd m) ([], [])
theorem rollF_snoc (m : Nat) (l : List Bt) (x : Bt) : rollF m (l ++ [x]) = rollAdd m (rollF m l) x := by simp [rollF]
def stL (st : List (List Bt) × List Bt) : List (List Bt) := st.1 ++ [st.2]
theorem rollAdd_flat (m : Nat) (st : List (List Bt) × List Bt) (x : Bt) : (stL (rollAdd m st x)).flatten = (stL st).flatten ++ [x] := by
  unfold rollAdd stL
  split <;> simp
theorem snoc_cases {α : Type} (l : List α) : l = [] ∨ ∃ l0 x, l = l0 ++ [x] := by
  rcases List.eq_nil_or_concat l with h | ⟨l0, x, h⟩
  · exact .inl h
  · exact .inr ⟨l0, x, by simpa using h⟩
theorem rollF_flat (m : Nat) (l : List Bt) : (stL (rollF m l)).flatten = l := by
  obtain ⟨n, hn⟩ : ∃ n, l.length = n := ⟨_, rfl⟩
  induction n generalizing l with
  | zero => rw [List.eq_nil_of_length_eq_zero hn]; rfl
  | succ n ih =>
    rcases snoc_cases l with rfl | ⟨l0, x, rfl⟩
    · rfl
    · rw [rollF_snoc, rollAdd_flat, ih l0 (by simpa using hn)]

/-! ### segments one behind the other -/
def Lk : Int → List Sg → Prop
  | _, [] => True
  | b, G :: l => (G.base : Int) = b ∧ (l ≠ [] → G.l ≠ [] ∧ G.kept = sizes G.l) ∧ Lk G.end_ l
def endS (b : Int) (l : List Sg) : Int := match l.getLast? with | none => b | some G => G.end_
theorem endS_cons (b : Int) (G : Sg) (l : List Sg) : endS b (G :: l) = endS G.end_ l := by
  rcases snoc_cases l with rfl | ⟨l0, y, rfl⟩
  · rfl
  · unfold endS; rw [← List.cons_append, List.getLast?_concat, List.getLast?_concat]
theorem Lk.app : ∀ {l m : List Sg} {b : Int}, Lk b (l ++ m) → Lk (endS b l) m
  | [], m, b, h => h
  | G :: l, m, b, h => by rw [endS_cons]; exact Lk.app h.2.2
theorem Lk.left : ∀ {l m : List Sg} {b : Int}, Lk b (l ++ m) → Lk b l
  | [], m, b, h => trivial
  | G :: l, m, b, h => ⟨h.1, fun hne => h.2.1 (by simp [hne]), Lk.left h.2.2⟩
theorem Lk.full : ∀ {l m : List Sg} {b : Int}, Lk b (l ++ m) → m ≠ [] → ∀ G ∈ l, G.l ≠ [] ∧ G.kept = sizes G.l
  | [], _, _, _, _, G, hG => by cases hG
  | K :: l, m, b, h, hm, G, hG => by
    rcases List.mem_cons.1 hG with rfl | hG
    · exact h.2.1 (by simp [hm])
    · exact Lk.full h.2.2 hm G hG
theorem Lk.join : ∀ {l m : List Sg} {b : Int}, Lk b l → (m ≠ [] → ∀ G ∈ l, G.l ≠ [] ∧ G.kept = sizes G.l) → Lk (endS b l) m → Lk b (l ++ m)
  | [], m, b, _, _, h => h
  | G :: l, m, b, h1, h2, h3 => ⟨h1.1, fun hne => by
      by_cases hm : m = []
      · subst hm; exact h1.2.1 (by simpa using hne)
      · exact h2 hm G (by simp), Lk.join h1.2.2 (fun hm K hK => h2 hm K (by simp [hK])) (by rw [← endS_cons b]; exact h3)⟩

theorem chain_ge : ∀ (l : List Bt) (b e : Int), Chain b e l → (∀ x, x ∈ l → 1 ≤ x.r.length) → b + (l.length : Int) ≤ endOf b l
  | [], b, e, _, _ => by simp [endOf]
  | x :: l, b, e, ⟨hb, he, hc⟩, h => by
    have h1 := chain_ge l _ _ hc (fun y hy => h y (List.mem_cons_of_mem _ hy))
    have := h x List.mem_cons_self
    rw [endOf_cons, List.length_cons]
    omega
theorem endOf_app (b : Int) (l m : List Bt) : endOf b (l ++ m) = endOf (endOf b l) m := by
  induction l generalizing b with
  | nil => rfl
  | cons x l ih => rw [List.cons_append, endOf_cons, endOf_cons, ih]
theorem epOf_app (e : Int) (l m : List Bt) : epOf e (l ++ m) = epOf (epOf e l) m := by
  induction l generalizing e with
  | nil => rfl
  | cons x l ih => rw [List.cons_append, epOf_cons, epOf_cons, ih]
/-- Where the segments end is where their batches end. -/
theorem endS_flat : ∀ (l : List Sg) (b : Int), Lk b l → endS b l = endOf b (l.map (·.l)).flatten
  | [], b, _ => rfl
  | G :: l, b, ⟨h1, h2, h3⟩ => by
    rw [endS_cons, endS_flat l _ h3, List.map_cons, List.flatten_cons, endOf_app, end_eq, h1]

/-- A log on a disk: its segments are the disk's files. -/
structure HotOn (D : Dk) (H : Hl) (b0 : Int) (l : List Bt) : Prop where
  sg : ∀ p, p ∈ H.L → SegOn D p.2 ∧ p.2.d = H.d ∧ p.2.every = H.every ∧ p.2.nm = segNm p.2.base
  I : DkI D
  room : D.room ≤ 4194304
  used : D.used ≤ D.room
  lk : Lk b0 (H.L.map (·.2))
  fl : (H.L.map (·.2.l)).flatten = l
  ch : Chain b0 0 l
  only : ∀ s, (∀ p, p ∈ H.L → p.2.nm ≠ s) → D.look s = none
  nml : D.nm.length = H.L.length
  n : D.n ≤ 1000000
  c0 : D.ch.length = 0
  kp : D.kp = D.nm
  e1 : 1 ≤ H.every
  e2 : H.every ≤ 1048576
  b0 : 0 ≤ b0
  sz : sizes l ≤ D.used

section
variable {D : Dk} {H : Hl} {b0 : Int} {l : List Bt}

theorem HotOn.ok (h : HotOn D H b0 l) : ∀ x, x ∈ l → BtOk x ∧ BtBy x := by
  intro x hx
  rw [← h.fl, List.mem_flatten] at hx
  obtain ⟨m, hm, hx⟩ := hx
  obtain ⟨p, hp, rfl⟩ := List.mem_map.1 hm
  exact ⟨(h.sg p hp).1.ok x hx, (h.sg p hp).1.by_ x hx⟩
theorem sum_sub : ∀ (L : List (Nat × Sg)) (p : Nat × Sg), p ∈ L → sizes p.2.l ≤ sizes (L.map (·.2.l)).flatten
  | q :: L, p, h => by
    rw [List.map_cons, List.flatten_cons, sizes_app]
    rcases List.mem_cons.1 h with rfl | h
    · omega
    · have := sum_sub L p h; omega
theorem HotOn.flat (h : HotOn D H b0 l) : ((H.L.map (·.2)).map (·.l)).flatten = l := by rw [← h.fl, List.map_map]; rfl
theorem HotOn.hend (h : HotOn D H b0 l) (hne : H.L ≠ []) : H.end_ = endOf b0 l := by
  have h1 := endS_flat _ _ h.lk
  rw [h.flat] at h1
  rcases lastHl H.L with h0 | ⟨l0, s, G, hL⟩
  · exact absurd h0 hne
  · rw [← h1]
    simp [Hl.end_, endS, hL]
theorem HotOn.hstart (h : HotOn D H b0 l) (hne : H.L ≠ []) : H.start = b0 := by
  have := h.lk
  cases hL : H.L with
  | nil => exact absurd hL hne
  | cons p L =>
    rw [hL] at this
    simp only [Hl.start, hL]
    exact this.1

/-- The segments that stand ahead of others. -/
theorem HotOn.split (h : HotOn D H b0 l) {L1 L2 : List (Nat × Sg)} {s : Nat} {G : Sg} (hL : H.L = L1 ++ (s, G) :: L2) :
    Chain G.base (epOf 0 (L1.map (·.2.l)).flatten) G.l ∧ (G.base : Int) = endOf b0 (L1.map (·.2.l)).flatten ∧ Chain b0 0 (L1.map (·.2.l)).flatten ∧ Chain G.end_ (epOf 0 (((L1.map (·.2.l)).flatten) ++ G.l)) (L2.map (·.2.l)).flatten ∧
      l = (L1.map (·.2.l)).flatten ++ (G.l ++ (L2.map (·.2.l)).flatten) := by
  have hl := h.fl
  have hk := h.lk
  have hc := h.ch
  rw [hL] at hl hk
  have hl' : l = (L1.map (·.2.l)).flatten ++ (G.l ++ (L2.map (·.2.l)).flatten) := by rw [← hl]; simp
  rw [hl'] at hc
  obtain ⟨c1, c2⟩ := (chain_app _ _ _ _).1 hc
  obtain ⟨c3, c4⟩ := (chain_app _ _ _ _).1 c2
  rw [List.map_append, List.map_cons] at hk
  have hb := hk.app.1
  rw [endS_flat _ _ hk.left, List.map_map] at hb
  rw [show ((L1.map ((·.l) ∘ (·.2))).flatten) = (L1.map (·.2.l)).flatten from rfl] at hb
  refine ⟨by rw [hb]; exact c3, hb, c1, ?_, hl'⟩
  rw [end_eq, hb, epOf_app]
  exact c4
theorem lk_len : ∀ (L : List (Nat × Sg)) (b : Int), Lk b (L.map (·.2)) → L.length ≤ (L.map (·.2.l)).flatten.length + 1
  | [], _, _ => by simp
  | p :: L, b, ⟨h1, h2, h3⟩ => by
    have ih := lk_len L _ h3
    rw [List.map_cons, List.flatten_cons, List.length_append, List.length_cons]
    by_cases hL : L = []
    · subst hL; simp
    · have h4 : 0 < p.2.l.length := List.length_pos_iff.2 (h2 (by simpa using hL)).1
      omega
theorem HotOn.small (h : HotOn D H b0 l) : l.length ≤ 190650 ∧ H.L.length ≤ 190651 := by
  have h1 := sizes_low l
  have h2 := h.sz
  have h3 := h.used
  have h4 := h.room
  have h5 := lk_len _ _ h.lk
  rw [h.fl] at h5
  omega
theorem HotOn.W (h : HotOn D H b0 l) : HlW H := ⟨fun p hp => (h.sg p hp).1.W, by have := h.small; omega⟩
theorem chain_low : ∀ (l : List Bt) (b e e' : Int), e' ≤ e → Chain b e l → Chain b e' l
  | [], _, _, _, _, _ => trivial
  | x :: l, b, e, e', h, ⟨h1, h2, h3⟩ => ⟨h1, by omega, h3⟩
theorem chain_ep : ∀ (l : List Bt) (b e : Int), Chain b e l → e ≤ epOf e l
  | [], b, e, _ => by simp [epOf]
  | x :: l, b, e, ⟨h1, h2, h3⟩ => by
    have := chain_ep l _ _ h3
    rw [epOf_cons]; omega
/-- Each segment's own batches are a chain from its base on. -/
theorem HotOn.chain (h : HotOn D H b0 l) {L1 L2 : List (Nat × Sg)} {s : Nat} {G : Sg} (hL : H.L = L1 ++ (s, G) :: L2) : Chain G.base 0 G.l := by
  obtain ⟨h1, -, h3, -, -⟩ := h.split hL
  exact chain_low _ _ _ _ (chain_ep _ _ _ h3) h1
theorem HotOn.segend (h : HotOn D H b0 l) {p : Nat × Sg} (hp : p ∈ H.L) : (p.2.base : Int) + (p.2.l.length : Int) ≤ p.2.end_ := by
  obtain ⟨L1, L2, hL⟩ := List.append_of_mem hp
  have := h.chain (s := p.1) (G := p.2) hL
  rw [end_eq]
  exact chain_ge _ _ _ this (fun x hx => ((h.sg p hp).1.ok x hx).n1)
theorem HotOn.endpos (h : HotOn D H b0 l) : b0 + (l.length : Int) ≤ endOf b0 l := chain_ge _ _ _ h.ch (fun x hx => (h.ok x hx).1.n1)
/-- What is ahead of a segment begins ahead of it. -/
theorem HotOn.before (h : HotOn D H b0 l) {L1 L2 : List (Nat × Sg)} {s : Nat} {G : Sg} (hL : H.L = L1 ++ (s, G) :: L2) {p : Nat × Sg} (hp : p ∈ L1) : p.2.end_ ≤ G.base ∧ p.2.base < G.base := by
  obtain ⟨K1, K2, hK⟩ := List.append_of_mem hp
  have hL2 : H.L = K1 ++ (p.1, p.2) :: (K2 ++ (s, G) :: L2) := by rw [hL, hK]; simp
  obtain ⟨-, -, -, h4, -⟩ := h.split hL2
  have hb := (h.split hL).2.1
  have hpm : p ∈ H.L := by rw [hL]; exact List.mem_append_left _ hp
  have hfl : ((L1.map (·.2.l)).flatten) = ((K1.map (·.2.l)).flatten ++ p.2.l) ++ (K2.map (·.2.l)).flatten := by rw [hK]; simp
  have hend : endOf b0 ((K1.map (·.2.l)).flatten ++ p.2.l) = p.2.end_ := by rw [endOf_app, ← (h.split hL2).2.1, end_eq]
  have h5 : Chain p.2.end_ (epOf 0 ((K1.map (·.2.l)).flatten ++ p.2.l)) (K2.map (·.2.l)).flatten := by
    rw [List.map_append, List.flatten_append] at h4
    exact ((chain_app _ _ _ _).1 h4).1
  have hok : ∀ x, x ∈ (K2.map (·.2.l)).flatten → 1 ≤ x.r.length := fun x hx => (h.ok x (by
    rw [(h.split hL).2.2.2.2, hfl]
    simp only [List.mem_append]
    exact .inl (.inr hx))).1.n1
  have h6 := chain_ge _ _ _ h5 hok
  rw [hfl, endOf_app, hend] at hb
  have h7 := h.segend hpm
  have hfull : p.2.l ≠ [] := by
    have hk := h.lk
    rw [hL2, List.map_append, List.map_cons] at hk
    exact (hk.app.2.1 (by simp)).1
  have h8 : 0 < p.2.l.length := List.length_pos_iff.2 hfull
  omega
/-- The names are each another. -/
theorem HotOn.names (h : HotOn D H b0 l) {L1 L2 : List (Nat × Sg)} {s : Nat} {G : Sg} (hL : H.L = L1 ++ (s, G) :: L2) : ∀ p, p ∈ L1 ∨ p ∈ L2 → p.2.nm ≠ G.nm := by
  have inj : ∀ p q, p ∈ H.L → q ∈ H.L → p.2.nm = q.2.nm → p.2.base = q.2.base := fun p q hp hq e => by
    rw [(h.sg p hp).2.2.2, (h.sg q hq).2.2.2] at e
    exact segNm_inj _ _ (h.sg p hp).1.base (h.sg q hq).1.base e
  have hGm : (s, G) ∈ H.L := by rw [hL]; simp
  intro p hp e
  rcases hp with hp | hp
  · have h1 := (h.before hL hp).2
    have h2 := inj p (s, G) (by rw [hL]; exact List.mem_append_left _ hp) hGm e
    dsimp only at h2
    omega
  · obtain ⟨K1, K2, hK⟩ := List.append_of_mem hp
    have hL2 : H.L = (L1 ++ (s, G) :: K1) ++ (p.1, p.2) :: K2 := by rw [hL, hK]; simp
    have h1 := (h.before hL2 (p := (s, G)) (by simp)).2
    have h2 := inj p (s, G) (by rw [hL2]; simp) hGm e
    dsimp only at h1 h2
    omega
end
end Go.Proofs.YtncjffkpkmjgkaaGreatDoor.Sg

/-! Hc -/
namespace Go.Proofs.YtncjffkpkmjgkaaGreatDoor.Sg
open Go.RowKit Er Go.Maps

theorem infoPr : (Tryz.prog.info? 181).map (fun i => (i.zero, i.size, i.bytes)) = some (some (.agg #[.int .i64 0, .int .i64 0]), 2, 16) := by kernel_rfl
/-- Pairs in cells. -/
def prV (l : List (Int × Int)) : List Value := l.flatMap fun p => [.int .i64 p.1, .int .i64 p.2]
theorem prV_app (l m : List (Int × Int)) : prV (l ++ m) = prV l ++ prV m := by simp [prV]
theorem prV_len (l : List (Int × Int)) : (prV l).length = l.length * 2 := by
  induction l with
  | nil => rfl
  | cons p l ih => unfold prV at ih ⊢; simp only [List.flatMap_cons, List.length_append, List.length_cons, List.length_nil, ih]; omega
theorem prV_at : ∀ (l : List (Int × Int)) (k : Nat) (p : Int × Int), l[k]? = some p → (prV l)[k * 2]? = some (.int .i64 p.1) ∧ (prV l)[k * 2 + 1]? = some (.int .i64 p.2)
  | [], k, p, h => by simp at h
  | q :: l, 0, p, h => by simp at h; subst h; exact ⟨rfl, rfl⟩
  | q :: l, k + 1, p, h => by
    have := prV_at l k p (by simpa using h)
    have e : prV (q :: l) = .int .i64 q.1 :: .int .i64 q.2 :: prV l := rfl
    rw [e, show (k + 1) * 2 = k * 2 + 1 + 1 from by omega, show k * 2 + 1 + 1 + 1 = (k * 2 + 1) + 1 + 1 from rfl]
    simpa using this
/-- A row of pairs that is owned. -/
def PrsM (v : Value) (l : List (Int × Int)) (A : Mm) : Prop := RowM 181 2 v l.length (prV l) A
theorem prs_push {v : Value} {m : Nat} {os l : List (Int × Int)} {a b : Int} {A : Mm} (hl : l = os ++ [(a, b)]) (hm : os.length = m) (hr : RowM 181 2 v (m + 1) (prV os ++ (#[Value.int .i64 a, .int .i64 b] : Array Value).toList) A) : PrsM v l A := by
  unfold PrsM
  rw [hl, prV_app, List.length_append, List.length_singleton, hm]
  exact hr
theorem prs_nil : PrsM (.slice none 0 0) [] [] := rowM_nil _ _

section
variable {P : Pm} {s h : Nat} {G : Sg} {H : Hl} {A Ap F : Mm} {w : World}

theorem PrsM.last {v : Value} {l0 : List (Int × Int)} {q : Int × Int} (hr : PrsM v (l0 ++ [q]) Ap) (hH : Hp w P (Ap ++ F)) : ∃ g c, v = .slice (some ⟨g, 0, none⟩) (l0.length + 1) c ∧ l0.length + 1 ≤ c ∧ w.cell? ⟨g, l0.length * 2, none⟩ = some (.int .i64 q.1) := by
  have h1 := (prV_at (l0 ++ [q]) l0.length q (by simp)).1
  obtain ⟨g, c, e1, e2, e3⟩ := RowM.cell hr hH h1
  rw [List.length_append, List.length_singleton] at e1 e2
  exact ⟨g, c, e1, e2, e3⟩

set_option maxRecDepth 100000 in
set_option maxHeartbeats 1000000 in
theorem spairs_ok (hG : SgM s G A) (hW : SgW G) (hH : Hp w P (A ++ F)) :
    Calls Tryz.prog 124 #[ptr s] w fun e w' => ∃ v Ap, e = .returned v ∧ PrsM v (prsB G.l []) Ap ∧ Hp w' P (Ap ++ (A ++ F)) := by
  obtain ⟨n, hn⟩ : ∃ n, G.l.length = n := ⟨_, rfl⟩
  obtain ⟨lv, Al, hA, hr⟩ := id hG
  obtain ⟨la, lc, rfl⟩ := hr.shape
  have c4 : w.cell? ⟨s, 4, none⟩ = some (.slice la n lc) := by
    rw [← hn]
    exact hH.cell (b := s) (c := sgCells G (.slice la G.l.length lc)) (t := 104) (fr := (0, 0)) (by simp [hA]) rfl
  have hnl := hW.len
  rw [hn] at hnl
  have H0 := Lib.hid hH
  have HN := Lib.hid hn
  have HG := Lib.hid hG
  have HC4 : Hid (∀ wr F, Hp wr P (A ++ F) → wr.cell? ⟨s, 4, none⟩ = some (.slice la n lc)) := fun wr F hHr => by
    rw [← hn]
    exact hHr.cell (b := s) (c := sgCells G (.slice la G.l.length lc)) (t := 104) (fr := (0, 0)) (by simp [hA]) rfl
  clear hH hn hG hW hr hA
  go_enter Tryz.func124, Tryz.ntmps124
  go_wp2_with fail
  go_loopg [3, 12] n (fun m vt vi wr => ∃ (k : Nat) (Ap : Mm), k + m = n ∧ vi = .int .i64 k ∧ PrsM vt (prsB (G.l.take k) []) Ap ∧ Hp wr P (Ap ++ (A ++ F)))
  case atStart => exact ⟨0, [], by omega, rfl, prs_nil, H0.out⟩
  case round =>
    obtain ⟨k, Ap, hk2, rfl, hpr, hHr⟩ := hrel
    by_cases hlt : k < n
    · obtain ⟨gj, rfl⟩ : ∃ x, gk = x + 1 := ⟨gk - 1, by omega⟩
      have hkl : k < G.l.length := by rw [HN.out]; exact hlt
      obtain ⟨g, c, hc, hpl⟩ := HG.out.places (fun h => by rw [h] at hkl; simp at hkl)
      have e5 := HC4.out wr _ (Hp.mid hHr)
      obtain ⟨e7, hpc⟩ := hpl wr P _ (Hp.mid hHr)
      rw [HN.out] at hc e7
      rw [e7] at e5
      cases e5
      have hpc := hpc k hkl
      have hst : prsB (G.l.take (k + 1)) [] = prAdd (prsB (G.l.take k) []) (G.l[k].e, G.l[k].b) := by rw [take_next G.l k hkl, prsB_snoc]
      obtain ⟨x, hx⟩ : ∃ x, G.l[k] = x := ⟨_, rfl⟩
      obtain ⟨p, hp⟩ : ∃ p, sizes (G.l.take k) = p := ⟨_, rfl⟩
      have hol := prsB_len (G.l.take k) []
      rw [List.length_take, List.length_nil] at hol
      rw [hx, hp] at hpc
      rw [hx] at hst
      have q0 := hpc 0 _ rfl
      have q1 := hpc 1 _ rfl
      have q2 := hpc 2 _ rfl
      have q3 := hpc 3 _ rfl
      have q4 := hpc 4 _ rfl
      have q5 := hpc 5 _ rfl
      rw [Nat.add_zero] at q0
      obtain ⟨out, hout⟩ : ∃ o, prsB (G.l.take k) [] = o := ⟨_, rfl⟩
      rw [hout] at hpr hst hol
      have j2 : (k : Int) < (n : Int) := by omega
      have j3 : (0 : Int) ≤ (k : Int) := by omega
      have HST := Lib.hid hst
      have H1 := Lib.hid ((hHr.alloc (.cells #[.int .i64 x.b, .int .i64 (x.b + x.r.length), .int .i64 p, .int .i64 (szB x), .int .i64 x.e, .int .i64 (tmax x)] 112)).tail)
      have HPR := Lib.hid hpr
      clear hHr hpc hpl hst hx hp e7 hpr hout
      rcases snoc_cases out with h0 | ⟨o0, q, h0⟩
      case' inl =>
        subst h0
        obtain ⟨va, vc, rfl⟩ := HPR.out.shape
        rw [List.length_nil]
        have HPU : Hid (prsB (G.l.take (k + 1)) [] = [] ++ [(x.e, x.b)]) := by show _ = _; rw [HST.out]; rfl
        have HR0 : Hid (RowM 181 2 (.slice va 0 vc) 0 (prV []) Ap) := HPR.out
        go_wp2_with fail
        go_quiet (fail)
        go_wp2_with (at_builtin; refine wpList_push_hp rfl _ _ _ rfl 181 _ 2 16 Tryz.underlying178 infoPr rfl (by omega) (.slice va 0 vc) 0 (prV []) rfl (H1.out.drewN _) HR0.out #[.int .i64 x.e, .int .i64 x.b] (by show Value.slice (some ⟨wr.heap.size + 1, 0, none⟩) 1 1 = Value.slice (some ⟨(wr.alloc (.cells #[.int .i64 x.b, .int .i64 (x.b + x.r.length), .int .i64 p, .int .i64 (szB x), .int .i64 x.e, .int .i64 (tmax x)] 112)).heap.size, 0, none⟩) 1 1; rw [World.alloc_size']) rfl (by intro u hu; simp at hu; rcases hu with rfl | rfl <;> rfl) (by omega) (by omega) ?_)
      case' inr =>
        subst h0
        by_cases hqe : q.1 = x.e
        case' pos =>
          obtain ⟨g2, c2, hv2, hc2, y0⟩ := HPR.out.last H1.out
          subst hv2
          have HPU : Hid (prsB (G.l.take (k + 1)) [] = o0 ++ [q]) := by show _ = _; rw [HST.out, prAdd_snoc, if_pos hqe]
          rw [hqe] at y0
          obtain ⟨on, hon⟩ : ∃ on, on = o0.length := ⟨_, rfl⟩
          rw [List.length_append, List.length_singleton] at hol
          rw [← hon] at y0 hc2 hol
          have i1 : IntKind.i64.wrap (((on + 1 : Nat) : Int) - 1) = (on : Int) := by rw [show (((on + 1 : Nat) : Int) - 1) = (on : Int) from by omega]; exact IntWalk.i64_in _ (by omega)
          rw [show (((on + 1 : Nat) : Int) - 1) = (on : Int) from by omega] at i1
          have i5 : ((on : Int) + 1 == 0) = false := beq_eq_false_iff_ne.2 (by omega)
          have i2 : (0 : Int) ≤ (on : Int) := by omega
          have i3 : ¬ ((on : Int) + 1 = 0) := by omega
          have i4 : (on : Int) < (on : Int) + 1 := by omega
          rw [← hon]
          have HR0 : Hid (PrsM (.slice (some ⟨g2, 0, none⟩) (on + 1) c2) (o0 ++ [q]) Ap) := by rw [hon]; exact HPR.out
          clear hon hqe i3
          go_wp2_with fail
          go_quiet (fail)
          go_wp2_with fail
          go_roundg gj
          case measure => omega
          case rel => exact ⟨k + 1, Ap, by omega, by simp, by rw [HPU.out]; exact HR0.out, H1.out.drewN _⟩
        case' neg =>
          obtain ⟨g2, c2, hv2, hc2, y0⟩ := HPR.out.last H1.out
          subst hv2
          have HPU : Hid (prsB (G.l.take (k + 1)) [] = o0 ++ [q] ++ [(x.e, x.b)]) := by show _ = _; rw [HST.out, prAdd_snoc, if_neg hqe]
          obtain ⟨qe, hqd⟩ : ∃ qe, q.1 = qe := ⟨_, rfl⟩
          rw [hqd] at y0 hqe
          obtain ⟨on, hon⟩ : ∃ on, on = o0.length := ⟨_, rfl⟩
          rw [List.length_append, List.length_singleton] at hol
          rw [← hon] at y0 hc2 hol
          have i1 : IntKind.i64.wrap (on : Int) = (on : Int) := IntWalk.i64_in _ (by omega)
          have i2 : (0 : Int) ≤ (on : Int) := by omega
          have i4 : (on : Int) < (on : Int) + 1 := by omega
          have i5 : ((on : Int) + 1 == 0) = false := beq_eq_false_iff_ne.2 (by omega)
          have i6 : (qe == x.e) = false := beq_eq_false_iff_ne.2 hqe
          rw [← hon]
          have HR0 : Hid (RowM 181 2 (.slice (some ⟨g2, 0, none⟩) (on + 1) c2) (on + 1) (prV (o0 ++ [q])) Ap) := by
            have := HPR.out
            unfold PrsM at this
            rw [List.length_append, List.length_singleton, ← hon] at this
            exact this
          obtain ⟨os, hos⟩ : ∃ os, os = o0 ++ [q] := ⟨_, rfl⟩
          have HON : Hid (os.length = on + 1) := by show _ = _; rw [hos, List.length_append, List.length_singleton, hon]
          rw [← hos] at HPU HR0
          clear hon hqe hqd hos
          go_wp2_with fail
          go_quiet (fail)
          go_wp2_with (at_builtin; refine wpList_push_hp rfl _ _ _ rfl 181 _ 2 16 Tryz.underlying178 infoPr rfl (by omega) (.slice (some ⟨g2, 0, none⟩) (on + 1) c2) (on + 1) (prV os) rfl (H1.out.drewN _) HR0.out #[.int .i64 x.e, .int .i64 x.b] (by show Value.slice (some ⟨wr.heap.size + 1, 0, none⟩) 1 1 = Value.slice (some ⟨(wr.alloc (.cells #[.int .i64 x.b, .int .i64 (x.b + x.r.length), .int .i64 p, .int .i64 (szB x), .int .i64 x.e, .int .i64 (tmax x)] 112)).heap.size, 0, none⟩) 1 1; rw [World.alloc_size']) rfl (by intro u hu; simp at hu; rcases hu with rfl | rfl <;> rfl) (by omega) (by omega) ?_)
      case' inl =>
        have HON : Hid (([] : List (Int × Int)).length = 0) := rfl
      all_goals
        intro g7 c7 w7 A7 hr7 hH7
        have hr8 := prs_push HPU.out HON.out hr7
        have H7 := Lib.hid hH7
        have HR8 := Lib.hid hr8
        clear hr7 hH7 hr8
        go_wp2_with fail
        go_roundg gj
        case measure => omega
        case rel => exact ⟨k + 1, A7, by omega, by simp, HR8.out, H7.out⟩
    · have hkn : k = n := by omega
      have e : G.l.take k = G.l := by rw [hkn, ← HN.out]; exact List.take_length
      rw [e] at hpr
      have HHR := Lib.hid hHr
      have HPR := Lib.hid hpr
      clear hHr hpr e
      go_wp2_with fail
      go_ret
      exact ⟨_, Ap, rfl, HPR.out, HHR.out⟩
end
end Go.Proofs.YtncjffkpkmjgkaaGreatDoor.Sg

/-! Hc1 -/
namespace Go.Proofs.YtncjffkpkmjgkaaGreatDoor.Sg
open Go.RowKit Er Go.Maps

section
variable {P : Pm} {s h : Nat} {G : Sg} {H : Hl} {A Ap F : Mm} {w : World}

/-- The epochs of a log. -/
def Hl.ep (H : Hl) : Int := epOf 0 (H.L.map (·.2.l)).flatten
def HpRel (P : Pm) (A F : Mm) (L : List Bt) (n : Nat) (m : Nat) (vt vi : Value) (wr : World) : Prop :=
  ∃ (k : Nat) (Ap : Mm), k + m = n ∧ vi = .int .i64 k ∧ PrsM vt (prsB L []) Ap ∧ Hp wr P (Ap ++ (A ++ F))

theorem prsP_len : ∀ (l out : List (Int × Int)), (prsP l out).length ≤ out.length + l.length
  | [], out => Nat.le_refl _
  | p :: l, out => by
    have h1 := prsP_len l (prAdd out p)
    have h2 := prAdd_len out p
    show (prsP l (prAdd out p)).length ≤ _
    rw [List.length_cons]
    omega
theorem PrsM.get {v : Value} {l : List (Int × Int)} (hr : PrsM v l Ap) (hH : Hp w P (Ap ++ F)) {j : Nat} (hj : j < l.length) : ∃ g c, v = .slice (some ⟨g, 0, none⟩) l.length c ∧ l.length ≤ c ∧ w.cell? ⟨g, j * 2, none⟩ = some (.int .i64 (l[j]).1) ∧ w.cell? ⟨g, j * 2 + 1, none⟩ = some (.int .i64 (l[j]).2) := by
  obtain ⟨h1, h2⟩ := prV_at l j l[j] (List.getElem?_eq_getElem hj)
  obtain ⟨g, c, e1, e2, e3⟩ := RowM.cell hr hH h1
  obtain ⟨g', c', e4, e5, e6⟩ := RowM.cell hr hH h2
  rw [e1] at e4
  cases e4
  exact ⟨g, c, e1, e2, e3, e6⟩

set_option maxRecDepth 100000 in
set_option maxHeartbeats 2000000 in
theorem hpairs_ok (hM : HlM h H A) (hW : HlW H) (hlen : (H.L.map (·.2.l)).flatten.length ≤ 1000000) (hH : Hp w P (A ++ F)) :
    Calls Tryz.prog 128 #[ptr h] w fun e w' => ∃ v Ap, e = .returned v ∧ PrsM v (prsB (H.L.map (·.2.l)).flatten []) Ap ∧ Hp w' P (Ap ++ (A ++ F)) := by
  obtain ⟨a, c, hc, hat⟩ := hM.at_
  obtain ⟨-, -, -, c3, -, -, -⟩ := hat w P F hH
  obtain ⟨n, hn⟩ : ∃ n, H.L.length = n := ⟨_, rfl⟩
  have hnl := hW.n
  rw [hn] at c3 hc hnl
  have H0 := Lib.hid hH
  have HN := Lib.hid hn
  have HAT := Lib.hid hat
  have HM := Lib.hid hM
  have HW := Lib.hid hW
  have HLEN := Lib.hid hlen
  clear hH hn hat hM hW hlen
  go_enter Tryz.func128, Tryz.ntmps128
  go_wp2_with fail
  go_loopg [3, 14] n (fun m vt vi wr => ∃ (k : Nat) (Ap : Mm), k + m = n ∧ vi = .int .i64 k ∧ PrsM vt (prsB ((H.L.take k).map (·.2.l)).flatten []) Ap ∧ Hp wr P (Ap ++ (A ++ F)))
  case atStart => exact ⟨0, [], by omega, rfl, prs_nil, H0.out⟩
  case round =>
    obtain ⟨k, Ap, hk2, rfl, hpr, hHr⟩ := hrel
    by_cases hlt : k < n
    · obtain ⟨gj, rfl⟩ : ∃ x, gk = x + 1 := ⟨gk - 1, by omega⟩
      have hkl : k < H.L.length := by rw [HN.out]; exact hlt
      obtain ⟨-, -, -, -, -, -, hcell⟩ := HAT.out wr P _ (Hp.mid hHr)
      obtain ⟨g, rfl, cg⟩ := hcell k hkl
      obtain ⟨s', hs⟩ : ∃ s, (H.L[k]).1 = s := ⟨_, rfl⟩
      obtain ⟨G', hG⟩ : ∃ G, (H.L[k]).2 = G := ⟨_, rfl⟩
      have hsp : H.L = H.L.take k ++ ((H.L[k]).1, (H.L[k]).2) :: H.L.drop (k + 1) := (take_split H.L k hkl).symm
      rw [hs, hG] at hsp
      rw [hs] at cg
      obtain ⟨A1, R, hG1, hp, -⟩ := HM.out.focus hsp
      have hGW := HW.out.g (s', G') (by rw [hsp]; simp)
      have hst : ((H.L.take (k + 1)).map (·.2.l)).flatten = ((H.L.take k).map (·.2.l)).flatten ++ G'.l := by rw [take_next H.L k hkl, List.map_append, List.map_singleton, hG]; simp
      have hlk : ((H.L.take (k + 1)).map (·.2.l)).flatten.length ≤ 1000000 := by
        have h1 := HLEN.out
        have h2 : (H.L.map (·.2.l)).flatten = ((H.L.take (k + 1)).map (·.2.l)).flatten ++ ((H.L.drop (k + 1)).map (·.2.l)).flatten := by
          rw [← List.flatten_append, ← List.map_append, List.take_append_drop]
        rw [h2, List.length_append] at h1
        omega
      rw [hst, List.length_append] at hlk
      obtain ⟨Lk, hLk⟩ : ∃ Lk, ((H.L.take k).map (·.2.l)).flatten = Lk := ⟨_, rfl⟩
      rw [hLk] at hst hlk hpr
      have hH1 : Hp wr P (A1 ++ (R ++ (Ap ++ F))) := (Hp.mid hHr).perm (hp (Ap ++ F))
      have j2 : (k : Int) < (n : Int) := by omega
      have j3 : (0 : Int) ≤ (k : Int) := by omega
      have HST := Lib.hid hst
      have HPR := Lib.hid hpr
      have HP := Lib.hid hp
      clear hHr hst hsp hs hG hpr hcell hp hLk
      go_wp2_with fail
      refine (spairs_ok hG1 hGW hH1).mono ?_
      rintro e w1 ⟨vq, Aq, rfl, hq, hH2⟩
      have hH3 : Hp w1 P (Ap ++ (Aq ++ (A ++ F))) := by
        have h1 : Hp w1 P (Aq ++ (A ++ (Ap ++ F))) := hH2.perm (List.Perm.append_left Aq (HP.out (Ap ++ F)).symm)
        have h2 := Hp.mid (A := Aq ++ A) (B := Ap) (C := F) (by simpa [List.append_assoc] using h1)
        simpa [List.append_assoc] using h2
      obtain ⟨ps, hps⟩ : ∃ ps, prsB G'.l [] = ps := ⟨_, rfl⟩
      have hpl := prsB_len G'.l []
      rw [hps] at hq hpl
      obtain ⟨ln, hln⟩ : ∃ ln, ps.length = ln := ⟨_, rfl⟩
      obtain ⟨qa, qc, hqv⟩ := hq.shape
      subst hqv
      have hol := prsB_len Lk []
      obtain ⟨o1, ho1⟩ : ∃ o1, prsB Lk [] = o1 := ⟨_, rfl⟩
      rw [ho1] at HPR hol
      have HEND : Hid (prsB ((H.L.take (k + 1)).map (·.2.l)).flatten [] = prsP ps o1) := by
        show _ = _
        rw [HST.out, prsB_app, ho1, ← hps, prsP_prsB]; rfl
      rw [hln] at hq ⊢
      rw [hln, List.length_nil, Nat.zero_add] at hpl
      rw [List.length_nil, Nat.zero_add] at hol
      have H3 := Lib.hid hH3
      have HQ := Lib.hid hq
      have HLN := Lib.hid hln
      have hln2 : o1.length + ln ≤ 1000000 := by omega
      clear hH1 hH2 hH3 hq hps hln ho1
      go_wp2_with fail
      go_loopg [3, 21] ln (fun m vt vi wq => ∃ (j : Nat) (Ap : Mm), j + m = ln ∧ vi = .int .i64 j ∧ PrsM vt (prsP (ps.take j) o1) Ap ∧ Hp wq P (Ap ++ (Aq ++ (A ++ F))))
      case atStart => exact ⟨0, Ap, by omega, rfl, HPR.out, H3.out⟩
      case round =>
        obtain ⟨j, Ap2, hj2, rfl, hpr2, hHq⟩ := hrel
        by_cases hjl : j < ln
        · obtain ⟨gi, rfl⟩ : ∃ x, gk = x + 1 := ⟨gk - 1, by omega⟩
          have hjp : j < ps.length := by rw [HLN.out]; exact hjl
          obtain ⟨g3, c3', hv3, hc3, z0, z1⟩ := PrsM.get (l := ps) (by have := HQ.out; exact this) (Hp.mid hHq) hjp
          rw [HLN.out] at hv3 hc3
          cases hv3
          have hst := prsP_snoc (ps.take j) ps[j] o1
          rw [← take_next ps j hjp] at hst
          have hol2 := prsP_len (ps.take j) o1
          rw [List.length_take] at hol2
          obtain ⟨pe, hpe⟩ : ∃ e, (ps[j]).1 = e := ⟨_, rfl⟩
          obtain ⟨pb, hpb⟩ : ∃ e, (ps[j]).2 = e := ⟨_, rfl⟩
          rw [show ps[j] = (pe, pb) from Prod.ext hpe hpb] at hst
          rw [hpe] at z0
          rw [hpb] at z1
          obtain ⟨out, hout⟩ : ∃ o, prsP (ps.take j) o1 = o := ⟨_, rfl⟩
          rw [hout] at hpr2 hst hol2
          have j4 : (j : Int) < (ln : Int) := by omega
          have j5 : (0 : Int) ≤ (j : Int) := by omega
          have HST2 := Lib.hid hst
          have H1 := Lib.hid ((hHq.alloc (.cells #[.int .i64 pe, .int .i64 pb] 181)).tail)
          have HPR2 := Lib.hid hpr2
          clear hHq hst hpe hpb hpr2 hout
          rcases snoc_cases out with h0 | ⟨o0, q, h0⟩
          case' inl =>
            subst h0
            obtain ⟨va, vc, rfl⟩ := HPR2.out.shape
            rw [List.length_nil]
            have HPU : Hid (prsP (ps.take (j + 1)) o1 = [] ++ [(pe, pb)]) := by show _ = _; rw [HST2.out]; rfl
            have HR0 : Hid (RowM 181 2 (.slice va 0 vc) 0 (prV []) Ap2) := HPR2.out
            go_wp2_with fail
            go_quiet (fail)
            go_wp2_with (at_builtin; refine wpList_push_hp rfl _ _ _ rfl 181 _ 2 16 Tryz.underlying178 infoPr rfl (by omega) (.slice va 0 vc) 0 (prV []) rfl (H1.out.drewN _) HR0.out #[.int .i64 pe, .int .i64 pb] (by show Value.slice (some ⟨wr.heap.size + 1, 0, none⟩) 1 1 = Value.slice (some ⟨(wr.alloc (.cells #[.int .i64 pe, .int .i64 pb] 181)).heap.size, 0, none⟩) 1 1; rw [World.alloc_size']) rfl (by intro u hu; simp at hu; rcases hu with rfl | rfl <;> rfl) (by omega) (by omega) ?_)
          case' inr =>
            subst h0
            by_cases hqe : q.1 = pe
            case' pos =>
              obtain ⟨g2, c2, hv2, hc2, y0⟩ := HPR2.out.last H1.out
              subst hv2
              have HPU : Hid (prsP (ps.take (j + 1)) o1 = o0 ++ [q]) := by show _ = _; rw [HST2.out, prAdd_snoc, if_pos hqe]
              rw [hqe] at y0
              obtain ⟨on, hon⟩ : ∃ on, on = o0.length := ⟨_, rfl⟩
              rw [List.length_append, List.length_singleton] at hol2
              rw [← hon] at y0 hc2 hol2
              have i1 : IntKind.i64.wrap (on : Int) = (on : Int) := IntWalk.i64_in _ (by omega)
              have i2 : (0 : Int) ≤ (on : Int) := by omega
              have i4 : (on : Int) < (on : Int) + 1 := by omega
              have i5 : ((on : Int) + 1 == 0) = false := beq_eq_false_iff_ne.2 (by omega)
              rw [← hon]
              have HR0 : Hid (PrsM (.slice (some ⟨g2, 0, none⟩) (on + 1) c2) (o0 ++ [q]) Ap2) := by rw [hon]; exact HPR2.out
              clear hon hqe
              go_wp2_with fail
              go_quiet (fail)
              go_wp2_with fail
              go_roundg gi
              case measure => omega
              case rel => exact ⟨j + 1, Ap2, by omega, by simp, by rw [HPU.out]; exact HR0.out, H1.out.drewN _⟩
            case' neg =>
              obtain ⟨g2, c2, hv2, hc2, y0⟩ := HPR2.out.last H1.out
              subst hv2
              have HPU : Hid (prsP (ps.take (j + 1)) o1 = o0 ++ [q] ++ [(pe, pb)]) := by show _ = _; rw [HST2.out, prAdd_snoc, if_neg hqe]
              obtain ⟨qe, hqd⟩ : ∃ qe, q.1 = qe := ⟨_, rfl⟩
              rw [hqd] at y0 hqe
              obtain ⟨on, hon⟩ : ∃ on, on = o0.length := ⟨_, rfl⟩
              rw [List.length_append, List.length_singleton] at hol2
              rw [← hon] at y0 hc2 hol2
              have i1 : IntKind.i64.wrap (on : Int) = (on : Int) := IntWalk.i64_in _ (by omega)
              have i2 : (0 : Int) ≤ (on : Int) := by omega
              have i4 : (on : Int) < (on : Int) + 1 := by omega
              have i5 : ((on : Int) + 1 == 0) = false := beq_eq_false_iff_ne.2 (by omega)
              have i6 : (qe == pe) = false := beq_eq_false_iff_ne.2 hqe
              rw [← hon]
              have HR0 : Hid (RowM 181 2 (.slice (some ⟨g2, 0, none⟩) (on + 1) c2) (on + 1) (prV (o0 ++ [q])) Ap2) := by
                have := HPR2.out
                unfold PrsM at this
                rw [List.length_append, List.length_singleton, ← hon] at this
                exact this
              obtain ⟨os, hos⟩ : ∃ os, os = o0 ++ [q] := ⟨_, rfl⟩
              have HON : Hid (os.length = on + 1) := by show _ = _; rw [hos, List.length_append, List.length_singleton, hon]
              rw [← hos] at HPU HR0
              clear hon hqe hqd hos
              go_wp2_with fail
              go_quiet (fail)
              go_wp2_with (at_builtin; refine wpList_push_hp rfl _ _ _ rfl 181 _ 2 16 Tryz.underlying178 infoPr rfl (by omega) (.slice (some ⟨g2, 0, none⟩) (on + 1) c2) (on + 1) (prV os) rfl (H1.out.drewN _) HR0.out #[.int .i64 pe, .int .i64 pb] (by show Value.slice (some ⟨wr.heap.size + 1, 0, none⟩) 1 1 = Value.slice (some ⟨(wr.alloc (.cells #[.int .i64 pe, .int .i64 pb] 181)).heap.size, 0, none⟩) 1 1; rw [World.alloc_size']) rfl (by intro u hu; simp at hu; rcases hu with rfl | rfl <;> rfl) (by omega) (by omega) ?_)
          case' inl =>
            have HON : Hid (([] : List (Int × Int)).length = 0) := rfl
          all_goals
            intro g7 c7 w7 A7 hr7 hH7
            have hr8 := prs_push HPU.out HON.out hr7
            have H7 := Lib.hid hH7
            have HR8 := Lib.hid hr8
            clear hr7 hH7 hr8
            go_wp2_with fail
            go_roundg gi
            case measure => omega
            case rel => exact ⟨j + 1, A7, by omega, by simp, HR8.out, H7.out⟩
        · have hjn : j = ln := by omega
          have e : ps.take j = ps := by rw [hjn, ← HLN.out]; exact List.take_length
          rw [e] at hpr2
          have HHQ := Lib.hid (Hp.mid hHq).drop
          have HPR2 := Lib.hid hpr2
          clear hHq hpr2 e
          go_wp2_with fail
          go_roundg gj
          case measure => omega
          case rel => exact ⟨k + 1, Ap2, by omega, by simp, by rw [HEND.out]; exact HPR2.out, HHQ.out⟩
    · have hkn : k = n := by omega
      have e : H.L.take k = H.L := by rw [hkn, ← HN.out]; exact List.take_length
      rw [e] at hpr
      have HHR := Lib.hid hHr
      have HPR := Lib.hid hpr
      clear hHr hpr e
      go_wp2_with fail
      go_ret
      exact ⟨_, Ap, rfl, HPR.out, HHR.out⟩

set_option maxRecDepth 100000 in
set_option maxHeartbeats 1000000 in
theorem hepoch_ok (hM : HlM h H A) (hW : HlW H) (hlen : (H.L.map (·.2.l)).flatten.length ≤ 1000000) (hH : Hp w P (A ++ F)) :
    Calls Tryz.prog 88 #[ptr h] w fun e w' => e = .returned (.int .i64 H.ep) ∧ Hp w' P (A ++ F) := by
  obtain ⟨L, hLd⟩ : ∃ L, (H.L.map (·.2.l)).flatten = L := ⟨_, rfl⟩
  have hep : H.ep = epOf 0 L := by unfold Hl.ep; rw [hLd]
  have hol := prsB_len L []
  rw [hLd] at hlen
  have HLD := Lib.hid hLd
  clear hLd
  go_enter Tryz.func88, Tryz.ntmps88
  go_wp2_with fail
  refine (hpairs_ok hM hW (by rw [HLD.out]; exact hlen) hH).mono ?_
  rintro e w1 ⟨v, Ap, rfl, hpr, hH1⟩
  rw [HLD.out] at hpr
  rcases snoc_cases L with h0 | ⟨l0, x, h0⟩
  · subst h0
    have HE : Hid (H.ep = 0) := hep
    obtain ⟨va, vc, rfl⟩ := hpr.shape
    rw [show (prsB [] []).length = 0 from rfl]
    have H1 := Lib.hid hH1.drop
    clear hH1 hpr hep
    go_wp2_with fail
    go_ret
    exact ⟨by rw [HE.out]; rfl, H1.out⟩
  · subst h0
    have HE : Hid (H.ep = x.e) := by rw [epOf_snoc] at hep; exact hep
    obtain ⟨o', q, ho, hq⟩ := prsB_last l0 x []
    rw [ho] at hpr hol
    obtain ⟨g2, c2, rfl, hc2, y0⟩ := hpr.last hH1
    rw [hq] at y0
    obtain ⟨on, hon⟩ : ∃ on, o'.length = on := ⟨_, rfl⟩
    rw [List.length_append, List.length_singleton] at hol
    rw [hon] at y0 hc2 hol ⊢
    have i1 : IntKind.i64.wrap (on : Int) = (on : Int) := IntWalk.i64_in _ (by rw [List.length_append, List.length_singleton, List.length_nil] at *; omega)
    have i2 : (0 : Int) ≤ (on : Int) := by omega
    have i4 : (on : Int) < (on : Int) + 1 := by omega
    have i5 : ((on : Int) + 1 == 0) = false := beq_eq_false_iff_ne.2 (by omega)
    have H1 := Lib.hid hH1.drop
    clear hH1 hpr hep ho hq hon hol
    go_wp2_with fail
    go_ret
    exact ⟨by rw [HE.out]; rfl, H1.out⟩
end
end Go.Proofs.YtncjffkpkmjgkaaGreatDoor.Sg

/-! Hd -/
namespace Go.Proofs.YtncjffkpkmjgkaaGreatDoor.Sg
open Go.RowKit Er Go.Maps

theorem Lk.last {l : List Sg} {G G' : Sg} {b : Int} (h : Lk b (l ++ [G])) (hb : G'.base = G.base) : Lk b (l ++ [G']) :=
  Lk.join h.left (fun _ => h.full (by simp)) ⟨by rw [hb]; exact h.app.1, fun h1 => absurd rfl h1, trivial⟩
theorem Lk.snoc {l : List Sg} {G : Sg} {b : Int} (h : Lk b l) (hl : ∀ l0 K, l = l0 ++ [K] → K.l ≠ [] ∧ K.kept = sizes K.l) (hG : (G.base : Int) = endS b l) : Lk b (l ++ [G]) := by
  refine Lk.join h (fun _ K hK => ?_) ⟨hG, fun h => absurd rfl h, trivial⟩
  rcases snoc_cases l with rfl | ⟨l0, K', rfl⟩
  · cases hK
  · rcases List.mem_append.1 hK with hK | hK
    · exact h.full (by simp) K hK
    · rw [List.mem_singleton.1 hK]; exact hl l0 K' rfl

section
variable {D D' : Dk} {H : Hl} {b0 : Int} {l : List Bt} {L1 L2 : List (Nat × Sg)} {s : Nat} {G : Sg}

theorem map_same (L1 L2 : List (Nat × Sg)) (s : Nat) (G G' : Sg) : ∀ p, p ∈ L1 ++ (s, G') :: L2 → p = (s, G') ∨ p ∈ L1 ++ (s, G) :: L2 ∧ (p ∈ L1 ∨ p ∈ L2) := by
  intro p hp
  simp only [List.mem_append, List.mem_cons] at hp ⊢
  rcases hp with hp | hp | hp
  · exact .inr ⟨.inl hp, .inl hp⟩
  · exact .inl hp
  · exact .inr ⟨.inr (.inr hp), .inr hp⟩

/-- A segment turns. -/
theorem HotOn.turn (h : HotOn D H b0 l) (hL : H.L = L1 ++ (s, G) :: L2) (G' : Sg) (hd : G'.d = G.d) (hnm : G'.nm = G.nm) (hbase : G'.base = G.base) (hev : G'.every = G.every) (hS : SegOn D' G') (hsm : DkSame D D')
    (hu : D'.used ≤ D'.room) (hlk : ∀ s', s' ≠ G.nm → D'.look s' = D.look s') (l' : List Bt) (hl' : ((L1 ++ (s, G') :: L2).map (·.2.l)).flatten = l') (hch : Chain b0 0 l') (hk : Lk b0 ((L1 ++ (s, G') :: L2).map (·.2))) (hsz : sizes l' ≤ D'.used) :
    HotOn D' { H with L := L1 ++ (s, G') :: L2 } b0 l' := by
  have hGm : (s, G) ∈ H.L := by rw [hL]; simp
  obtain ⟨g1, g2, g3, g4⟩ := h.sg _ hGm
  dsimp only at g1 g2 g3 g4
  have hnames := h.names hL
  refine ⟨fun p hp => ?_, hS.I, by rw [hsm.room]; exact h.room, hu, hk, hl', hch, fun s' hs' => ?_, ?_, by rw [hsm.n]; exact h.n, by have := hsm.ch; have := h.c0; omega, hsm.kpq h.kp, h.e1, h.e2, h.b0, hsz⟩
  · rcases map_same L1 L2 s G G' p hp with rfl | ⟨hp, hor⟩
    · exact ⟨hS, hd.trans g2, hev.trans g3, by show G'.nm = segNm G'.base; rw [hnm, hbase]; exact g4⟩
    · rw [← hL] at hp
      obtain ⟨k1, k2, k3, k4⟩ := h.sg p hp
      exact ⟨k1.keep hS.I (by rw [hsm.room]; exact h.room) hu (hlk _ (hnames p hor)), k2, k3, k4⟩
  · have hne : s' ≠ G.nm := fun e => hs' (s, G') (by simp) (by rw [e]; exact hnm)
    rw [hlk s' hne]
    refine h.only s' (fun p hp => ?_)
    rw [hL] at hp
    rcases map_same L1 L2 s G' G p hp with rfl | ⟨hp, -⟩
    · exact fun e => hne e.symm
    · exact hs' p hp
  · rw [hsm.nml, h.nml, hL]; simp

/-- A new one behind. -/
theorem HotOn.more (h : HotOn D H b0 l) (hfull : ∀ L0 s G, H.L = L0 ++ [(s, G)] → G.l ≠ [] ∧ G.kept = sizes G.l) (base : Nat) (hb : (base : Int) = endOf b0 l) (s : Nat) (hS : SegOn D' ⟨H.d, segNm base, base, H.every, [], 0⟩)
    (hr : D'.room = D.room) (hu : D'.used = D.used) (hnl : D'.nm.length = D.nm.length + 1) (hn : D'.n ≤ 1000000) (hc : D'.ch.length = 0) (hkp : D'.kp = D'.nm) (hlk : ∀ s', s' ≠ segNm base → D'.look s' = D.look s')
    (hnew : ∀ p, p ∈ H.L → p.2.nm ≠ segNm base) : HotOn D' { H with L := H.L ++ [(s, ⟨H.d, segNm base, base, H.every, [], 0⟩)] } b0 l := by
  have hu' : D'.used ≤ D'.room := by rw [hu, hr]; exact h.used
  refine ⟨fun p hp => ?_, hS.I, by rw [hr]; exact h.room, hu', ?_, ?_, h.ch, fun s' hs' => ?_, ?_, hn, hc, hkp, h.e1, h.e2, h.b0, by rw [hu]; exact h.sz⟩
  · rcases List.mem_append.1 hp with hp | hp
    · obtain ⟨k1, k2, k3, k4⟩ := h.sg p hp
      exact ⟨k1.keep hS.I (by rw [hr]; exact h.room) hu' (hlk _ (hnew p hp)), k2, k3, k4⟩
    · rw [List.mem_singleton.1 hp]; exact ⟨hS, rfl, rfl, rfl⟩
  · show Lk b0 ((H.L ++ [((s, (⟨H.d, segNm base, base, H.every, [], 0⟩ : Sg)) : Nat × Sg)]).map (·.2))
    rw [List.map_append]
    refine h.lk.snoc (fun l0 K hK => ?_) ?_
    · rcases lastHl H.L with h0 | ⟨L0, s', G', hL⟩
      · rw [h0] at hK; simp at hK
      · rw [hL, List.map_append] at hK
        obtain ⟨-, h2⟩ := List.append_inj' hK rfl
        have : G' = K := by simpa using h2
        rw [← this]
        exact hfull L0 s' G' hL
    · rw [endS_flat _ _ h.lk, h.flat]; exact hb
  · show ((H.L ++ [((s, (⟨H.d, segNm base, base, H.every, [], 0⟩ : Sg)) : Nat × Sg)]).map (·.2.l)).flatten = l
    rw [List.map_append, List.flatten_append, h.fl]; simp
  · have hs0 : ∀ p, p ∈ H.L → p.2.nm ≠ s' := fun p hp => hs' p (List.mem_append_left _ hp)
    have hs1 : s' ≠ segNm base := fun e => hs' (s, ⟨H.d, segNm base, base, H.every, [], 0⟩) (by simp) e.symm
    rw [hlk s' hs1]
    exact h.only s' hs0
  · rw [hnl, h.nml]; simp

/-- The name of a segment behind the last one, which is not empty, is new. -/
theorem HotOn.fresh (h : HotOn D H b0 l) (hfull : ∀ L0 s G, H.L = L0 ++ [(s, G)] → G.l ≠ []) (base : Nat) (hb : (base : Int) = endOf b0 l) (hle : base ≤ 1099511627776) : (∀ p, p ∈ H.L → p.2.nm ≠ segNm base) ∧ D.look (segNm base) = none := by
  have h1 : ∀ p, p ∈ H.L → p.2.nm ≠ segNm base := by
    intro p hp e
    have hpp := (h.sg p hp).2.2.2
    rw [hpp] at e
    have e2 := segNm_inj _ _ (h.sg p hp).1.base hle e
    rcases lastHl H.L with h0 | ⟨L0, s', G', hL⟩
    · rw [h0] at hp; cases hp
    · have hend := h.hend (by rw [hL]; simp)
      have hE : H.end_ = G'.end_ := by simp [Hl.end_, hL]
      have hsg := h.segend (p := (s', G')) (by rw [hL]; simp)
      have hpos : 0 < G'.l.length := List.length_pos_iff.2 (hfull L0 s' G' hL)
      dsimp only at hsg
      rw [hL] at hp
      rcases List.mem_append.1 hp with hp | hp
      · have := (h.before (L2 := []) hL hp).2
        omega
      · rw [List.mem_singleton.1 hp] at e2
        dsimp only at e2
        omega
  exact ⟨h1, h.only _ h1⟩

/-- What an append leaves of a log, and of its disk. -/
structure Apd (H H' : Hl) (D D' : Dk) (x : Bt) : Prop where
  d : H'.d = H.d
  seg : H'.seg = H.seg
  every : H'.every = H.every
  roll : ∀ st, stL st = H.L.map (·.2.l) → stL (rollAdd H.seg st x) = H'.L.map (·.2.l)
  room : D'.room = D.room
  used : D'.used = D.used + szB x
  n : D'.n ≤ D.n + 1
  ne : H'.L ≠ []

theorem st_last {st : List (List Bt) × List Bt} {L0 : List (Nat × Sg)} (h : stL st = (L0 ++ [(s, G)]).map (·.2.l)) : st.1 = L0.map (·.2.l) ∧ st.2 = G.l := by
  unfold stL at h
  rw [List.map_append] at h
  obtain ⟨h1, h2⟩ := List.append_inj' h rfl
  exact ⟨h1, by simpa using h2⟩

theorem HotOn.push (h : HotOn D H b0 l) {L0 : List (Nat × Sg)} (hL : H.L = L0 ++ [(s, G)]) (x : Bt) (hS : SegOn D' (G.push x)) (hsm : DkSame D D') (hu : D'.used = D.used + szB x) (hroom : D.used + szB x ≤ D.room)
    (hlk : ∀ s', s' ≠ G.nm → D'.look s' = D.look s') (hch : Chain b0 0 (l ++ [x])) : HotOn D' { H with L := L0 ++ [(s, G.push x)] } b0 (l ++ [x]) := by
  refine h.turn (L2 := []) hL (G.push x) rfl rfl rfl rfl hS hsm (by rw [hu, hsm.room]; exact hroom) hlk _ ?_ hch ?_ ?_
  · have := h.fl
    rw [hL] at this
    rw [← this]
    simp [Sg.push]
  · have := h.lk
    rw [hL, List.map_append] at this
    rw [List.map_append]
    exact Lk.last (G' := G.push x) this rfl
  · rw [hu, sizes_app]
    have := h.sz
    simp [sizes] at this ⊢
    exact this
theorem apd_push {L0 : List (Nat × Sg)} (hL : H.L = L0 ++ [(s, G)]) (x : Bt) (hno : ¬ (0 < sizes G.l ∧ H.seg < sizes G.l + szB x)) (hsm : DkSame D D') (hu : D'.used = D.used + szB x) : Apd H { H with L := L0 ++ [(s, G.push x)] } D D' x := by
  refine ⟨rfl, rfl, rfl, fun st hst => ?_, hsm.room, hu, by rw [hsm.n]; omega, by simp⟩
  rw [hL] at hst
  obtain ⟨h1, h2⟩ := st_last hst
  unfold rollAdd
  rw [h2, if_neg hno]
  unfold stL
  rw [h1, List.map_append]
  rfl
theorem HotOn.sync (h : HotOn D H b0 l) {L0 : List (Nat × Sg)} (hL : H.L = L0 ++ [(s, G)]) (hS : SegOn D' G.syn) (hsm : DkSame D D') (hu : D'.used = D.used)
    (hlk : ∀ s', s' ≠ G.nm → D'.look s' = D.look s') : HotOn D' { H with L := L0 ++ [(s, G.syn)] } b0 l := by
  refine h.turn (L2 := []) hL G.syn rfl rfl rfl rfl hS hsm (by rw [hu, hsm.room]; exact h.used) hlk _ ?_ h.ch ?_ (by rw [hu]; exact h.sz)
  · have := h.fl
    rw [hL] at this
    rw [← this]
    simp [Sg.syn]
  · have := h.lk
    rw [hL, List.map_append] at this
    rw [List.map_append]
    exact Lk.last (G' := G.syn) this rfl
theorem apd_roll {L0 : List (Nat × Sg)} (hL : H.L = L0 ++ [(s, G)]) (x : Bt) (hyes : 0 < sizes G.l ∧ H.seg < sizes G.l + szB x) (s2 : Nat) (G2 : Sg) (h2 : G2.l = []) (hr : D'.room = D.room) (hu : D'.used = D.used + szB x) (hn : D'.n ≤ D.n + 1) :
    Apd H { H with L := (L0 ++ [(s, G.syn)]) ++ [(s2, G2.push x)] } D D' x := by
  refine ⟨rfl, rfl, rfl, fun st hst => ?_, hr, hu, hn, by simp⟩
  rw [hL] at hst
  obtain ⟨e1, e2⟩ := st_last hst
  unfold rollAdd
  rw [e2, if_pos hyes]
  unfold stL
  rw [e1]
  simp [Sg.syn, Sg.push, h2]
end
end Go.Proofs.YtncjffkpkmjgkaaGreatDoor.Sg

/-! He -/
namespace Go.Proofs.YtncjffkpkmjgkaaGreatDoor.Sg
open Go.RowKit Er Go.Maps

theorem infoTri : (Tryz.prog.info? 60).map (fun i => (i.zero, i.size, i.bytes)) = some (some (.agg #[.int .i64 0, .int .i64 0, .int .i64 0]), 3, 24) := by kernel_rfl
/-- A segment's first offset, its end, its size. -/
abbrev Tri := Int × Int × Nat
def triV (l : List Tri) : List Value := l.flatMap fun p => [.int .i64 p.1, .int .i64 p.2.1, .int .i64 p.2.2]
theorem triV_app (l m : List Tri) : triV (l ++ m) = triV l ++ triV m := by simp [triV]
theorem triV_at : ∀ (l : List Tri) (k : Nat) (p : Tri), l[k]? = some p → (triV l)[k * 3]? = some (.int .i64 p.1) ∧ (triV l)[k * 3 + 1]? = some (.int .i64 p.2.1) ∧ (triV l)[k * 3 + 2]? = some (.int .i64 p.2.2)
  | [], k, p, h => by simp at h
  | q :: l, 0, p, h => by simp at h; subst h; exact ⟨rfl, rfl, rfl⟩
  | q :: l, k + 1, p, h => by
    have := triV_at l k p (by simpa using h)
    have e : triV (q :: l) = .int .i64 q.1 :: .int .i64 q.2.1 :: .int .i64 q.2.2 :: triV l := rfl
    rw [e, show (k + 1) * 3 = k * 3 + 1 + 1 + 1 from by omega, show k * 3 + 1 + 1 + 1 + 1 = (k * 3 + 1) + 1 + 1 + 1 from rfl, show k * 3 + 1 + 1 + 1 + 2 = (k * 3 + 2) + 1 + 1 + 1 from by omega]
    simpa using this
/-- A row of triples that is owned. -/
def TriM (v : Value) (l : List Tri) (A : Mm) : Prop := RowM 60 3 v l.length (triV l) A
theorem tri_nil : TriM (.slice none 0 0) [] [] := rowM_nil _ _
def triG (G : Sg) : Tri := (G.base, G.end_, sizes G.l)

section
variable {S : List Nat} {E : Nat → Addr} {B : Nat} {P : Pm} {h : Nat} {H : Hl} {D : Dk} {A Ad F : Mm} {w : World}

/-- A log's segment in its row. -/
theorem HlM.nth (k : Nat) (hk : k < H.L.length) : H.L = H.L.take k ++ ((H.L[k]).1, (H.L[k]).2) :: H.L.drop (k + 1) := (take_split H.L k hk).symm

set_option maxRecDepth 100000 in
set_option maxHeartbeats 1000000 in
theorem hsegs_ok (hM : HlM h H A) (hW : HlW H) (hH : Hp w P (A ++ F)) :
    Calls Tryz.prog 26 #[ptr h] w fun e w' => ∃ v At, e = .returned v ∧ TriM v (H.L.map fun p => triG p.2) At ∧ Hp w' P (At ++ (A ++ F)) := by
  obtain ⟨a, c, hc, hat⟩ := hM.at_
  obtain ⟨-, -, -, c3, -, -, -⟩ := hat w P F hH
  obtain ⟨n, hn⟩ : ∃ n, H.L.length = n := ⟨_, rfl⟩
  have hnl := hW.n
  rw [hn] at c3 hc hnl
  have H0 := Lib.hid hH
  have HN := Lib.hid hn
  have HAT := Lib.hid hat
  have HM := Lib.hid hM
  have HW := Lib.hid hW
  clear hH hn hat hM hW
  go_enter Tryz.func26, Tryz.ntmps26
  go_wp2_with fail
  go_loopg [3, 11] n (fun m vt vi wr => ∃ (k : Nat) (At : Mm), k + m = n ∧ vi = .int .i64 k ∧ TriM vt ((H.L.take k).map fun p => triG p.2) At ∧ Hp wr P (At ++ (A ++ F)))
  case atStart => exact ⟨0, [], by omega, rfl, tri_nil, H0.out⟩
  case round =>
    obtain ⟨k, At, hk2, rfl, htr, hHr⟩ := hrel
    by_cases hlt : k < n
    · obtain ⟨gj, rfl⟩ : ∃ x, gk = x + 1 := ⟨gk - 1, by omega⟩
      have hkl : k < H.L.length := by rw [HN.out]; exact hlt
      obtain ⟨-, -, -, -, -, -, hcell⟩ := HAT.out wr P _ (Hp.mid hHr)
      obtain ⟨g, rfl, cg⟩ := hcell k hkl
      obtain ⟨s, hs⟩ : ∃ s, (H.L[k]).1 = s := ⟨_, rfl⟩
      obtain ⟨G, hG⟩ : ∃ G, (H.L[k]).2 = G := ⟨_, rfl⟩
      have hsp := HlM.nth k hkl
      rw [hs, hG] at hsp
      rw [hs] at cg
      obtain ⟨A1, R, hG1, hp, -⟩ := HM.out.focus hsp
      have hGW := HW.out.g (s, G) (by rw [hsp]; simp)
      have hst : (H.L.take (k + 1)).map (fun p => triG p.2) = (H.L.take k).map (fun p => triG p.2) ++ [triG G] := by rw [take_next H.L k hkl, List.map_append, List.map_singleton, hG]
      have hH1 : Hp wr P (A1 ++ (R ++ (At ++ F))) := (Hp.mid hHr).perm (hp (At ++ F))
      obtain ⟨va, vc, rfl⟩ := htr.shape
      have hlk : ((H.L.take k).map fun p => triG p.2).length = k := by rw [List.length_map, List.length_take]; omega
      rw [hlk] at htr ⊢
      have j2 : (k : Int) < (n : Int) := by omega
      have j3 : (0 : Int) ≤ (k : Int) := by omega
      have HST := Lib.hid hst
      have HTR := Lib.hid htr
      have HP := Lib.hid hp
      clear hHr hst hsp hs hG htr hcell hp hlk
      go_wp2_with fail
      refine (sbase_any hG1 hH1).mono ?_
      rintro e w1 ⟨rfl, rfl⟩
      go_wp2_with fail
      refine (end_any hG1 hGW hH1).mono ?_
      rintro e w2 ⟨rfl, hH2⟩
      go_wp2_with fail
      refine (ssize_any hG1 hGW hH2).mono ?_
      rintro e w3 ⟨rfl, hH3⟩
      have hH4 : Hp w3 P (At ++ (A ++ F)) := Hp.mid (hH3.perm (HP.out (At ++ F)).symm)
      obtain ⟨b, hb⟩ : ∃ b, (G.base : Int) = b := ⟨_, rfl⟩
      obtain ⟨en, hen⟩ : ∃ en, G.end_ = en := ⟨_, rfl⟩
      obtain ⟨sz, hsz⟩ : ∃ sz, sizes G.l = sz := ⟨_, rfl⟩
      have HTG : Hid (triG G = (b, en, sz)) := by show triG G = _; unfold triG; rw [hb, hen, hsz]
      rw [hb, hen, hsz]
      have H4 := Lib.hid hH4
      clear hH1 hH2 hH3 hH4 hb hen hsz
      go_wp2_with (at_builtin; refine wpList_push_hp rfl _ _ _ rfl 60 _ 3 24 Tryz.underlying57 infoTri rfl (by omega) (.slice va k vc) k (triV ((H.L.take k).map fun p => triG p.2)) rfl H4.out (by have := HTR.out; unfold TriM at this; rwa [show ((H.L.take k).map fun p => triG p.2).length = k from by rw [List.length_map, List.length_take]; omega] at this) #[.int .i64 b, .int .i64 en, .int .i64 sz] rfl rfl (by intro u hu; simp at hu; rcases hu with rfl | rfl | rfl <;> rfl) (by omega) (by omega) ?_)
      intro g7 c7 w7 A7 hr7 hH7
      have hr8 : TriM (.slice (some ⟨g7, 0, none⟩) (k + 1) c7) ((H.L.take (k + 1)).map fun p => triG p.2) A7 := by
        unfold TriM
        rw [HST.out, triV_app, HTG.out, List.length_append, List.length_map, List.length_take, Nat.min_eq_left (by omega), List.map_take]
        exact hr7
      have H7 := Lib.hid hH7
      have HR8 := Lib.hid hr8
      clear hr7 hH7 hr8
      go_wp2_with fail
      go_roundg gj
      case measure => omega
      case rel => exact ⟨k + 1, A7, by omega, by simp, HR8.out, H7.out⟩
    · have hkn : k = n := by omega
      have e : H.L.take k = H.L := by rw [hkn, ← HN.out]; exact List.take_length
      rw [e] at htr
      have HHR := Lib.hid hHr
      have HTR := Lib.hid htr
      clear hHr htr e
      go_wp2_with fail
      go_ret
      exact ⟨_, At, rfl, HTR.out, HHR.out⟩

set_option maxRecDepth 100000 in
set_option maxHeartbeats 1000000 in
theorem hread_at (C : Ctx S E B P) (hM : HlM h H A) (hW : HlW H) (hD : DkM P H.d D Ad) {L1 L2 : List (Nat × Sg)} {s : Nat} {G : Sg} (hL : H.L = L1 ++ (s, G) :: L2) (hO : SegOn D G) (hGd : G.d = H.d) (o most : Int) (ho1 : (G.base : Int) ≤ o) (ho2 : o < G.end_) (hpre : ∀ p, p ∈ L1 → p.2.end_ ≤ o)
    (hm1 : -9223372036854775808 ≤ most) (hm2 : most ≤ 9223372036854775807) (hH : Hp w P (A ++ (Ad ++ F))) :
    Calls Tryz.prog 85 #[ptr h, .int .i64 o, .int .i64 most] w fun e w' =>
      ∃ v out P', e = .returned (.tuple #[v, .nilIface]) ∧ Sub P P' ∧ out.map (·.1) = rdGo o most G.l [] 0 ∧ BtsP P' v out ∧ Hp w' P' (A ++ (Ad ++ F)) := by
  obtain ⟨a, c, hc, hat⟩ := hM.at_
  obtain ⟨-, -, -, c3, -, -, -⟩ := hat w P _ hH
  obtain ⟨n, hn⟩ : ∃ n, H.L.length = n := ⟨_, rfl⟩
  have hnl := hW.n
  rw [hn] at c3 hc hnl
  have hl1 : L1.length < n := by rw [← hn, hL]; simp
  obtain ⟨q, hq⟩ : ∃ q, L1.length = q := ⟨_, rfl⟩
  rw [hq] at hl1
  have H0 := Lib.hid hH
  have HN := Lib.hid hn
  have HAT := Lib.hid hat
  have HM := Lib.hid hM
  have HW := Lib.hid hW
  have HL := Lib.hid hL
  have HQ := Lib.hid hq
  have HPRE := Lib.hid hpre
  have HO1 := Lib.hid ho1
  have HO2 := Lib.hid ho2
  have HGD := Lib.hid hGd
  clear hH hn hat hM hW hL hq hpre ho1 ho2 hGd
  go_enter Tryz.func85, Tryz.ntmps85
  go_wp2_with fail
  go_loopg [15] n (fun m vi wr => ∃ k : Nat, k + m = n ∧ k ≤ q ∧ vi = .int .i64 k ∧ Hp wr P (A ++ (Ad ++ F)))
  case atStart => exact ⟨0, by omega, by omega, rfl, H0.out⟩
  case round =>
    obtain ⟨k, hk2, hkq, rfl, hHr⟩ := hrel
    have hlt : k < n := by omega
    obtain ⟨gj, rfl⟩ : ∃ x, gk = x + 1 := ⟨gk - 1, by omega⟩
    have hkl : k < H.L.length := by rw [HN.out]; exact hlt
    obtain ⟨-, -, -, -, -, -, hcell⟩ := HAT.out wr P _ hHr
    obtain ⟨g, rfl, cg⟩ := hcell k hkl
    have j2 : (k : Int) < (n : Int) := by omega
    have j3 : (0 : Int) ≤ (k : Int) := by omega
    by_cases hkk : k < q
    · obtain ⟨s', hs⟩ : ∃ s, (H.L[k]).1 = s := ⟨_, rfl⟩
      obtain ⟨G', hG⟩ : ∃ G, (H.L[k]).2 = G := ⟨_, rfl⟩
      have hsp := HlM.nth k hkl
      rw [hs, hG] at hsp
      rw [hs] at cg
      obtain ⟨A1, R, hG1, hp, -⟩ := HM.out.focus hsp
      have hGW := HW.out.g (s', G') (by rw [hsp]; simp)
      have hmem : (s', G') ∈ L1 := by
        have h1 : H.L[k] = L1[k]'(by have := HQ.out; omega) := by
          have h2 := HL.out
          simp only [h2]
          exact List.getElem_append_left (by have := HQ.out; omega)
        rw [← hs, ← hG, h1]
        exact List.getElem_mem _
      have hend := HPRE.out _ hmem
      dsimp only at hend
      have hH1 : Hp wr P (A1 ++ (R ++ (Ad ++ F))) := hHr.perm (hp _)
      obtain ⟨b, hb⟩ : ∃ b, (G'.base : Int) = b := ⟨_, rfl⟩
      obtain ⟨en, hen⟩ : ∃ en, G'.end_ = en := ⟨_, rfl⟩
      rw [hen] at hend
      have hnot : ¬ o < en := by omega
      have HP := Lib.hid hp
      have HB := Lib.hid hb
      have HEN := Lib.hid hen
      clear hHr hsp hs hG hcell hp hmem hb hen hend
      go_wp2_with fail
      refine (sbase_any hG1 hH1).mono ?_
      rintro e w1 ⟨rfl, rfl⟩
      rw [HB.out]
      by_cases hbo : b ≤ o
      · go_wp2_with fail
        refine (end_any hG1 hGW hH1).mono ?_
        rintro e w2 ⟨rfl, hH2⟩
        rw [HEN.out]
        have H2 := Lib.hid (hH2.perm (HP.out _).symm)
        clear hH1 hH2
        go_wp2_with fail
        go_roundg gj
        case measure => omega
        case rel => exact ⟨k + 1, by omega, by omega, by simp, H2.out⟩
      · have H2 := Lib.hid (hH1.perm (HP.out _).symm)
        clear hH1
        go_wp2_with fail
        go_roundg gj
        case measure => omega
        case rel => exact ⟨k + 1, by omega, by omega, by simp, H2.out⟩
    · have hkq2 : k = q := by omega
      have hx : H.L[k] = (s, G) := by
        have h2 := HL.out
        have h3 := HQ.out
        simp only [h2]
        rw [List.getElem_append_right (by omega)]
        simp [hkq2, h3]
      rw [hx] at cg
      dsimp only at cg
      obtain ⟨A1, R, hG1, hp, -⟩ := HM.out.focus HL.out
      have hGW := HW.out.g (s, G) (by rw [HL.out]; simp)
      have hH1 : Hp wr P (A1 ++ (R ++ (Ad ++ F))) := hHr.perm (hp _)
      have i1 := HO1.out
      have i2 := HO2.out
      obtain ⟨b, hb⟩ : ∃ b, (G.base : Int) = b := ⟨_, rfl⟩
      obtain ⟨en, hen⟩ : ∃ en, G.end_ = en := ⟨_, rfl⟩
      rw [hb] at i1
      rw [hen] at i2
      have HP := Lib.hid hp
      have HB := Lib.hid hb
      have HEN := Lib.hid hen
      clear hHr hcell hp hx hb hen hkq2
      go_wp2_with fail
      refine (sbase_any hG1 hH1).mono ?_
      rintro e w1 ⟨rfl, rfl⟩
      rw [HB.out]
      go_wp2_with fail
      refine (end_any hG1 hGW hH1).mono ?_
      rintro e w2 ⟨rfl, hH2⟩
      rw [HEN.out]
      have hH3 : Hp w2 P (A1 ++ (Ad ++ (R ++ F))) := by
        have := hH2.perm (List.Perm.append_left A1 (perm_mid R Ad F))
        exact this
      have hDG : DkM P G.d D Ad := by rw [HGD.out]; exact hD
      clear hH1 hH2
      have H3 := Lib.hid hH3
      have HDG := Lib.hid hDG
      clear hH3 hDG
      go_wp2_with fail
      refine (sread_on C hG1 hO HDG.out o most HO1.out HO2.out hm1 hm2 H3.out).mono ?_
      rintro e w3 ⟨v, out, P3, rfl, hs3, hm3, hb3, hH4⟩
      have hH5 : Hp w3 P3 (A ++ (Ad ++ F)) := (hH4.perm (List.Perm.append_left A1 (perm_mid Ad R F))).perm (HP.out _).symm
      have H5 := Lib.hid hH5
      have HS3 := Lib.hid hs3
      have HM3 := Lib.hid hm3
      have HB3 := Lib.hid hb3
      clear hH4 hH5 hs3 hm3 hb3
      go_wp2_with fail
      go_ret2
      exact ⟨v, out, P3, rfl, HS3.out, HM3.out, HB3.out, H5.out⟩

set_option maxRecDepth 100000 in
set_option maxHeartbeats 1000000 in
theorem hread_out (C : Ctx S E B P) (hM : HlM h H A) (hW : HlW H) (o most : Int) (hout : ∀ p, p ∈ H.L → o < p.2.base ∨ p.2.end_ ≤ o) (hH : Hp w P (A ++ F)) :
    Calls Tryz.prog 85 #[ptr h, .int .i64 o, .int .i64 most] w fun e w' => e = .returned (.tuple #[.slice none 0 0, .iface 289 (.pointer (some (E 14)))]) ∧ Hp w' P (A ++ F) := by
  obtain ⟨a, c, hc, hat⟩ := hM.at_
  obtain ⟨-, -, -, c3, -, -, -⟩ := hat w P _ hH
  obtain ⟨n, hn⟩ : ∃ n, H.L.length = n := ⟨_, rfl⟩
  have hnl := hW.n
  rw [hn] at c3 hc hnl
  have H0 := Lib.hid hH
  have HN := Lib.hid hn
  have HAT := Lib.hid hat
  have HM := Lib.hid hM
  have HW := Lib.hid hW
  have HOUT := Lib.hid hout
  clear hH hn hat hM hW hout
  go_enter Tryz.func85, Tryz.ntmps85
  go_wp2_with fail
  go_loopg [15] n (fun m vi wr => ∃ k : Nat, k + m = n ∧ vi = .int .i64 k ∧ Hp wr P (A ++ F))
  case atStart => exact ⟨0, by omega, rfl, H0.out⟩
  case round =>
    obtain ⟨k, hk2, rfl, hHr⟩ := hrel
    by_cases hlt : k < n
    · obtain ⟨gj, rfl⟩ : ∃ x, gk = x + 1 := ⟨gk - 1, by omega⟩
      have hkl : k < H.L.length := by rw [HN.out]; exact hlt
      obtain ⟨-, -, -, -, -, -, hcell⟩ := HAT.out wr P _ hHr
      obtain ⟨g, rfl, cg⟩ := hcell k hkl
      have j2 : (k : Int) < (n : Int) := by omega
      have j3 : (0 : Int) ≤ (k : Int) := by omega
      obtain ⟨s', hs⟩ : ∃ s, (H.L[k]).1 = s := ⟨_, rfl⟩
      obtain ⟨G', hG⟩ : ∃ G, (H.L[k]).2 = G := ⟨_, rfl⟩
      have hsp := HlM.nth k hkl
      rw [hs, hG] at hsp
      rw [hs] at cg
      obtain ⟨A1, R, hG1, hp, -⟩ := HM.out.focus hsp
      have hmem : (s', G') ∈ H.L := by rw [hsp]; simp
      have hGW := HW.out.g (s', G') hmem
      have hor := HOUT.out _ hmem
      dsimp only at hor
      have hH1 : Hp wr P (A1 ++ (R ++ F)) := hHr.perm (hp _)
      obtain ⟨b, hb⟩ : ∃ b, (G'.base : Int) = b := ⟨_, rfl⟩
      obtain ⟨en, hen⟩ : ∃ en, G'.end_ = en := ⟨_, rfl⟩
      rw [hb, hen] at hor
      have HP := Lib.hid hp
      have HB := Lib.hid hb
      have HEN := Lib.hid hen
      clear hHr hsp hs hG hcell hp hmem hb hen
      go_wp2_with fail
      refine (sbase_any hG1 hH1).mono ?_
      rintro e w1 ⟨rfl, rfl⟩
      rw [HB.out]
      by_cases hbo : b ≤ o
      · have hnot : ¬ o < en := by omega
        clear hor
        go_wp2_with fail
        refine (end_any hG1 hGW hH1).mono ?_
        rintro e w2 ⟨rfl, hH2⟩
        rw [HEN.out]
        have H2 := Lib.hid (hH2.perm (HP.out _).symm)
        clear hH1 hH2
        go_wp2_with fail
        go_roundg gj
        case measure => omega
        case rel => exact ⟨k + 1, by omega, by simp, H2.out⟩
      · have H2 := Lib.hid (hH1.perm (HP.out _).symm)
        clear hH1 hor
        go_wp2_with fail
        go_roundg gj
        case measure => omega
        case rel => exact ⟨k + 1, by omega, by simp, H2.out⟩
    · have hkn : k = n := by omega
      have ce : wr.cell? ⟨7, 0, none⟩ = some (.iface 289 (.pointer (some (E 14)))) := (hHr.use C.errs).at_ 14 (C.all 14 (by decide))
      have HHR := Lib.hid hHr
      clear hHr
      go_wp2_with fail
      go_quiet (fail)
      go_wp2_with fail
      go_ret2
      exact ⟨rfl, HHR.out.drewN _⟩
end
end Go.Proofs.YtncjffkpkmjgkaaGreatDoor.Sg

/-! Hf -/
namespace Go.Proofs.YtncjffkpkmjgkaaGreatDoor.Sg
open Go.RowKit Er Go.Maps

theorem infoSp : (Tryz.prog.info? 41).map (fun i => (i.zero, i.size, i.bytes)) = some (some (.pointer none), 1, 8) := by kernel_rfl
theorem made_kp {D : Dk} (nm : Nam) (b : Nat) : (D.made nm b).kp = (D.made nm b).nm := (beg_fl _).2.1.symm

section
variable {S : List Nat} {E : Nat → Addr} {B : Nat} {P : Pm} {s d h : Nat} {H : Hl} {D : Dk} {A Ad F : Mm} {w : World}

/-- What a segment that was made leaves of a disk. -/
structure Made (D D' : Dk) (base : Nat) : Prop where
  room : D'.room = D.room
  used : D'.used = D.used
  nml : D'.nm.length = D.nm.length + 1
  n : D'.n = D.n + 1
  ch : D'.ch.length = 0
  kp : D'.kp = D'.nm
  lk : ∀ s', s' ≠ segNm base → D'.look s' = D.look s'

theorem screate_hot (C : Ctx S E B P) (hD : DkM P d D Ad) (hI : DkI D) (base : Nat) (hb : base ≤ 1099511627776) (every : Nat) (h1 : 1 ≤ every) (h2 : every ≤ 1048576)
    (hl : D.look (segNm base) = none) (hn : D.n ≤ 1000000) (hnl : D.nm.length < 1000000) (hc : D.ch.length ≤ 1000000) (hr : D.room ≤ 4194304) (hu : D.used ≤ D.room) (hH : Hp w P (Ad ++ F)) :
    Calls Tryz.prog 90 #[ptr d, .int .i64 base, .int .i64 every] w fun e w' => ∃ s As Ad' D', e = .returned (.tuple #[ptr s, .nilIface]) ∧ SgM s ⟨d, segNm base, base, every, [], 0⟩ As ∧ DkM P d D' Ad' ∧ SegOn D' ⟨d, segNm base, base, every, [], 0⟩ ∧
      Made D D' base ∧ Hp w' P (As ++ (Ad' ++ F)) := by
  refine (screate_ok C hD hI base hb every h1 h2 hl hn hnl hc hH).mono ?_
  rintro e w2 ⟨s, b, As, Ad2, rfl, hG2, hD2, hnd, hH2⟩
  have hI2 := made_I hI (nm := segNm base) hl hnd
  have hlk := made_look hI (nm := segNm base) hl hnd
  have hus := made_used hI (nm := segNm base) hl hnd
  obtain ⟨r1, r2, r3, r4⟩ := made_room hI (nm := segNm base) hl hnd
  refine ⟨s, As, Ad2, _, rfl, hG2, hD2, ⟨hI2, by simp, by simp, hb, by simp [segNm_len], ⟨⟨b, D.n + 1, [], 0⟩, ?_, rfl, rfl⟩, by rw [r1]; exact hr, by rw [hus, r1]; exact hu⟩, ⟨r1, hus, r2, r3, r4, made_kp _ _, fun s' hs' => by rw [hlk, if_neg hs']⟩, hH2⟩
  show Dk.look _ (segNm base) = _
  rw [hlk, if_pos rfl]

theorem HlM.parts (hM : HlM h H A) : ∃ lv Al As, A = (h, Obj.cells (hlCells H lv) 119 (0, 0)) :: (Al ++ As) ∧ RowM 41 1 lv H.L.length (ptrsL H.L) Al ∧ SgsM H.L As := hM

/-- A pointer more in a log's row. -/
theorem HlM.pushed {v : Value} {Al As An : Mm} {G : Sg} {n : Nat} (hn : n = H.L.length) (hr : RowM 41 1 v (n + 1) (ptrsL H.L ++ [ptr s]) Al) (hS : SgsM H.L As) (hG : SgM s G An) :
    HlM h { H with L := H.L ++ [(s, G)] } ((h, Obj.cells (hlCells H v) 119 (0, 0)) :: (Al ++ (As ++ An))) := by
  subst hn
  refine ⟨v, Al, As ++ An, rfl, ?_, hS.join (SgsM.one hG)⟩
  have e1 : (H.L ++ [(s, G)]).length = H.L.length + 1 := by simp
  have e2 : ptrsL (H.L ++ [(s, G)]) = ptrsL H.L ++ [ptr s] := by simp [ptrsL]
  show RowM _ 1 v (H.L ++ [(s, G)]).length (ptrsL (H.L ++ [(s, G)])) Al
  rw [e1, e2]
  exact hr

set_option maxRecDepth 100000 in
set_option maxHeartbeats 1000000 in
theorem hbegin_ok (C : Ctx S E B P) (hM : HlM h H A) (h0 : H.L = []) (hD : DkM P H.d D Ad) (base : Nat) (hb : base ≤ 1099511627776) (hO : HotOn D H base []) (hn : D.n < 1000000) (hH : Hp w P (A ++ (Ad ++ F))) :
    Calls Tryz.prog 40 #[ptr h, .int .i64 base] w fun e w' => e = .returned .nilIface ∧ ∃ s A' Ad' D', HlM h { H with L := [(s, ⟨H.d, segNm base, base, H.every, [], 0⟩)] } A' ∧ DkM P H.d D' Ad' ∧
      HotOn D' { H with L := [(s, ⟨H.d, segNm base, base, H.every, [], 0⟩)] } base [] ∧ Made D D' base ∧ Hp w' P (A' ++ (Ad' ++ F)) := by
  obtain ⟨hd, hs0, he, hL0⟩ := H
  dsimp only at h0 hD ⊢
  subst h0
  obtain ⟨lv, Al, As, rfl, hr, hS⟩ := hM
  obtain ⟨la, lc, rfl⟩ := hr.shape
  obtain rfl : As = [] := hS
  have hlk : D.look (segNm base) = none := hO.only _ (by simp)
  have e1 := hO.e1
  have e2 := hO.e2
  dsimp only at e1 e2
  have hm : (h, Obj.cells (hlCells ⟨hd, hs0, he, []⟩ (.slice la 0 lc)) 119 (0, 0)) ∈ (h, Obj.cells (hlCells ⟨hd, hs0, he, []⟩ (.slice la 0 lc)) 119 (0, 0)) :: (Al ++ []) ++ (Ad ++ F) := by simp
  have c0 : w.cell? ⟨h, 0, none⟩ = some (ptr hd) := hH.cell hm rfl
  have c2 : w.cell? ⟨h, 2, none⟩ = some (.int .i64 he) := hH.cell hm rfl
  have c3 : w.cell? ⟨h, 3, none⟩ = some (.slice la 0 lc) := hH.cell hm rfl
  have hH1 : Hp w P (Ad ++ (((h, Obj.cells (hlCells ⟨hd, hs0, he, []⟩ (.slice la 0 lc)) 119 (0, 0)) :: Al) ++ F)) := by
    have := Hp.mid (A := (h, Obj.cells (hlCells ⟨hd, hs0, he, []⟩ (.slice la 0 lc)) 119 (0, 0)) :: Al) (B := Ad) (C := F) (by simpa using hH)
    exact this
  have H1 := Lib.hid hH1
  have HR := Lib.hid hr
  have HLK := Lib.hid hlk
  clear hH hH1 hm hr hlk
  go_enter Tryz.func40, Tryz.ntmps40
  go_wp2_with fail
  go_region_held3 (fun w' => w'.cell? ⟨h, 0, none⟩ = some (ptr hd) ∧ w'.cell? ⟨h, 2, none⟩ = some (.int .i64 he))
    (first
      | go_keep
      | exact ⟨k0, k2⟩)
    (first
      | (go_at_call 90
         with_reducible refine (screate_hot C hD hO.I base hb he e1 e2 HLK.out (by omega) (by have := hO.nml; dsimp only [List.length_nil] at this; omega) (by have := hO.c0; omega) hO.room hO.used H1.out.drew).mono ?_
         rintro e w1 ⟨s, As, Ad1, D1, rfl, hG1, hD1, hO1, hMd, hH2⟩
         have hx := hH2.drop.drop
         have k0 : w1.cell? ⟨h, 0, none⟩ = some (ptr hd) := (@Hp.cell _ _ _ hx h (hlCells ⟨hd, hs0, he, []⟩ (.slice la 0 lc)) 119 (0, 0) (by simp)) (i := 0) rfl
         have k2 : w1.cell? ⟨h, 2, none⟩ = some (.int .i64 he) := (@Hp.cell _ _ _ hx h (hlCells ⟨hd, hs0, he, []⟩ (.slice la 0 lc)) 119 (0, 0) (by simp)) (i := 2) rfl))
  have hH3 : Hp w1 P (Al ++ ((h, Obj.cells (hlCells ⟨hd, hs0, he, []⟩ (.slice la 0 lc)) 119 (0, 0)) :: (As ++ (Ad1 ++ F)))) := by
    refine hH2.perm ?_
    have p1 := perm_mid (As ++ Ad1) ((h, Obj.cells (hlCells ⟨hd, hs0, he, []⟩ (.slice la 0 lc)) 119 (0, 0)) :: Al) F
    have p2 := perm_mid [(h, Obj.cells (hlCells ⟨hd, hs0, he, []⟩ (.slice la 0 lc)) 119 (0, 0))] Al (As ++ (Ad1 ++ F))
    refine List.Perm.trans ?_ p2
    simpa [List.append_assoc] using p1
  have c3 : w1.cell? ⟨h, 3, none⟩ = some (.slice la 0 lc) := (@Hp.cell _ _ _ hH3 h (hlCells ⟨hd, hs0, he, []⟩ (.slice la 0 lc)) 119 (0, 0) (by simp)) (i := 3) rfl
  have H3 := Lib.hid hH3
  clear hH2 hH3 hx k0 k2
  go_wp2_with (at_builtin; refine wpList_push_hp rfl _ _ _ rfl 41 _ 1 8 Tryz.underlying117 infoSp rfl (by omega) (.slice la 0 lc) 0 [] rfl H3.out HR.out #[ptr s] rfl rfl (by intro u hu; simp at hu; subst hu; rfl) (by omega) (by omega) ?_)
  intro g7 c7 w7 A7 hr7 hH7
  have hH8 := Hp.mid (A := A7) (B := [(h, Obj.cells (hlCells ⟨hd, hs0, he, []⟩ (.slice la 0 lc)) 119 (0, 0))]) (C := As ++ (Ad1 ++ F)) hH7
  have f3 := @Hp.frozen _ _ _ hH8 h (hlCells ⟨hd, hs0, he, []⟩ (.slice la 0 lc)) 119 (by simp) 3
  have c3' : w7.cell? ⟨h, 3, none⟩ = some (.slice la 0 lc) := (@Hp.cell _ _ _ hH8 h (hlCells ⟨hd, hs0, he, []⟩ (.slice la 0 lc)) 119 (0, 0) (by simp)) (i := 3) rfl
  have H8 := Lib.hid hH8
  have HR7 := Lib.hid hr7
  clear hH7 hH8 hr7
  go_wp2_with fail
  go_ret
  have hz := Hp.set (M := A7 ++ (As ++ (Ad1 ++ F))) H8.out 3 (.slice (some ⟨g7, 0, none⟩) (0 + 1) c7)
  refine ⟨rfl, s, _, Ad1, D1, HlM.pushed (H := ⟨hd, hs0, he, []⟩) rfl HR7.out rfl hG1, hD1, ?_, hMd, ?_⟩
  · exact hO.more (by simp) base rfl s hO1 hMd.room hMd.used hMd.nml (by have := hMd.n; omega) hMd.ch hMd.kp hMd.lk (by simp)
  · simpa [hlCells, List.append_assoc] using hz
end
end Go.Proofs.YtncjffkpkmjgkaaGreatDoor.Sg

/-! Hg -/
namespace Go.Proofs.YtncjffkpkmjgkaaGreatDoor.Sg
open Go.RowKit Er Go.Maps

section
variable {S : List Nat} {E : Nat → Addr} {B : Nat} {P : Pm} {h s : Nat} {H : Hl} {G : Sg} {D : Dk} {A Ad F : Mm} {w : World} {b0 : Int} {l : List Bt}

theorem box_mid {P : Pm} {w : World} {A Ad F : Mm} (hH : Hp w P (A ++ (Ad ++ F))) (o : Obj) : Hp (w.alloc o) P (A ++ (Ad ++ ((w.heap.size, o) :: F))) := by
  have := Hp.mid (A := [(w.heap.size, o)]) (B := A ++ Ad) (C := F) (by simpa [List.append_assoc] using hH.alloc o)
  simpa [List.append_assoc] using this
theorem box_off {P : Pm} {w : World} {A Ad F : Mm} {y : Nat × Obj} (hH : Hp w P (A ++ (Ad ++ (y :: F)))) : Hp w P (A ++ (Ad ++ F)) := by
  have hz := Hp.drop (Hp.mid (A := A ++ Ad) (B := [y]) (C := F) (by simpa [List.append_assoc] using hH))
  simpa [List.append_assoc] using hz

theorem size_q {M : Mm} (C : Ctx S E B P) (x : Bt) (hok : BtOk x) (hby : BtBy x) (v : Value) (hv : BtV w v x) (hH : Hp w P M) (q : Nat) (hq : szB x = q) :
    Calls Tryz.prog 89 #[v] w fun e w' => e = .returned (.int .i64 q) ∧ Hp w' P M := by
  refine (size_any (C.all 3 (by decide)) (C.all 4 (by decide)) x (by have := hok.n64; omega) hby v w (hH.use C.errs) hv).mono ?_
  rintro e w' ⟨rfl, hb⟩
  refine ⟨?_, hH.below hb (Nat.le_refl _)⟩
  unfold sizeB
  rw [if_pos hok.code]
  subst hq
  rfl

set_option maxRecDepth 100000 in
set_option maxHeartbeats 4000000 in
theorem happend_on (C : Ctx S E B P) (hM : HlM h H A) (hO : HotOn D H b0 l) (hD : DkM P H.d D Ad) {L0 : List (Nat × Sg)} (hL : H.L = L0 ++ [(s, G)]) (x : Bt) (hxo : BtOk x) (hxb : BtBy x) (v : Value) (hv : Pers P (fun w => BtV w v x))
    (hb : x.b = endOf b0 l) (he : epOf 0 l ≤ x.e) (hroom : D.used + szB x ≤ D.room) (hn : D.n < 1000000) (hH : Hp w P (A ++ (Ad ++ F))) :
    Calls Tryz.prog 37 #[ptr h, v] w fun e w' => e = .returned .nilIface ∧ ∃ P' A' Ad' D' H', Sub P P' ∧ HlM h H' A' ∧ DkM P' H.d D' Ad' ∧ HotOn D' H' b0 (l ++ [x]) ∧ Apd H H' D D' x ∧ Hp w' P' (A' ++ (Ad' ++ F)) := by
  obtain ⟨rs, rfl, h2⟩ := hH.use hv
  obtain ⟨ra, rc, rfl⟩ := h2.shape
  have hW := hO.W
  have hne : H.L ≠ [] := by rw [hL]; simp
  have hgm : (s, G) ∈ H.L := by rw [hL]; simp
  obtain ⟨hGO, hGd, hGe, hGn⟩ := hO.sg _ hgm
  dsimp only at hGO hGd hGe hGn
  have hend := hO.hend hne
  have hxend : H.end_ = x.b := by rw [hend, hb]
  have hsm := hO.small
  have hGend : G.end_ = x.b := by rw [← hxend]; simp [Hl.end_, hL]
  have hlast : H.ep = epOf 0 l := by unfold Hl.ep; rw [hO.fl]
  have hsplit := hO.split (L2 := []) hL
  have hl0 : l = (L0.map (·.2.l)).flatten ++ G.l := by have := hsplit.2.2.2.2; simpa using this
  have hfoll : G.foll x = true := by
    unfold Sg.foll
    rw [Bool.and_eq_true, decide_eq_true_eq, decide_eq_true_eq]
    refine ⟨hGend.symm, ?_⟩
    rw [lastE_eq]
    rcases snoc_cases G.l with h0 | ⟨g0, y, h0⟩
    · rw [h0]; show (0 : Int) ≤ x.e; exact hxo.e0
    · rw [h0, epOf_snoc]
      rw [hl0, h0, ← List.append_assoc, epOf_snoc] at he
      exact he
  have hchx : Chain b0 0 (l ++ [x]) := (chain_app _ _ _ _).2 ⟨hO.ch, hb, he, trivial⟩
  have hsz := szB_le x hxo
  have hused := hO.used
  have hrm := hO.room
  have hl0n : L0.length ≤ 1000000 := by have := hsm.2; rw [hL] at this; simp at this; omega
  have hH0 := box_mid hH (.cells #[.int .i64 x.b, .int .i64 x.e, .slice ra x.r.length rc] 38)
  obtain ⟨a, c, hc, hat⟩ := hM.at_
  obtain ⟨-, -, -, c3, -, -, -⟩ := hat _ P _ hH0
  have hbox : ∀ w' P' M, Hp w' P' M → (w.heap.size, Obj.cells #[.int .i64 x.b, .int .i64 x.e, .slice ra x.r.length rc] 38 (0, 0)) ∈ M →
      w'.cell? ⟨w.heap.size, 0, none⟩ = some (.int .i64 x.b) ∧ w'.cell? ⟨w.heap.size, 1, none⟩ = some (.int .i64 x.e) ∧ w'.cell? ⟨w.heap.size, 2, none⟩ = some (.slice ra x.r.length rc) := fun w' P' M hx hm =>
    ⟨hx.cell hm rfl, hx.cell hm rfl, hx.cell hm rfl⟩
  obtain ⟨hlc, hlcd⟩ : ∃ m, H.L.length = m := ⟨_, rfl⟩
  have hlp : 0 < hlc := by rw [← hlcd, hL]; simp
  have hat : ∀ w' P' F', Hp w' P' (A ++ F') → w'.cell? ⟨h, 0, none⟩ = some (ptr H.d) ∧ w'.cell? ⟨h, 1, none⟩ = some (.int .i64 H.seg) ∧ w'.cell? ⟨h, 2, none⟩ = some (.int .i64 H.every) ∧ w'.cell? ⟨h, 3, none⟩ = some (.slice a hlc c) := fun w' P' F' hx => by
    obtain ⟨z0, z1, z2, z3, -⟩ := hat w' P' F' hx
    rw [hlcd] at z3
    exact ⟨z0, z1, z2, z3⟩
  rw [hlcd] at c3 hc
  have w4 : ((hlc : Int) == 0) = false := beq_eq_false_iff_ne.2 (by omega)
  have hep0 : ¬ x.e < H.ep := by rw [hlast]; omega
  have H0 := Lib.hid hH0
  have HV := Lib.hid hv
  have HB := Lib.hid hbox
  have HK := Lib.hid hxo
  have HEND := Lib.hid hxend
  have HLN := Lib.hid hlcd
  have HFO := Lib.hid hfoll
  have HCH := Lib.hid hchx
  have HL := Lib.hid hL
  have HL0 := Lib.hid hl0
  have HAT := Lib.hid hat
  have HO := Lib.hid hO
  have HXB := Lib.hid hb
  have HGO := Lib.hid hGO
  have HGD := Lib.hid hGd
  have HGEND := Lib.hid hGend
  have HW := Lib.hid hW
  have HRM := Lib.hid hroom
  obtain ⟨ep, hep⟩ : ∃ ep, H.ep = ep := ⟨_, rfl⟩
  rw [hep] at hep0
  have HEP := Lib.hid hep
  clear hH hH0 hv hbox hxo h2 hxend hlcd hfoll hchx hL hl0 hat hO hb hGO hGd hGend hW hlast hend hsplit hep hroom he hGn hGe hgm hne
  go_enter Tryz.func37, Tryz.ntmps37
  go_wp2_with fail
  refine (valid_any (C.all 3 (by decide)) (C.all 4 (by decide)) x (by have := HK.out.n64; omega) _ _ (H0.out.use C.errs) (H0.out.use HV.out)).mono ?_
  rintro e w1 ⟨rfl, hb1⟩
  rw [HK.out.code, ev_zero]
  have hH1 := H0.out.below hb1 (Nat.le_refl _)
  obtain ⟨k0, k1, k2⟩ := HB.out _ _ _ hH1 (by simp)
  have H1 := Lib.hid hH1
  clear hb1 hH1 c3
  go_wp2_with fail
  go_region_held3 (fun w' => w'.cell? ⟨w.heap.size, 0, none⟩ = some (.int .i64 x.b) ∧ w'.cell? ⟨w.heap.size, 1, none⟩ = some (.int .i64 x.e))
    (first
      | go_keep
      | exact ⟨k0, k1⟩)
    (first
      | (go_at_call 32
         with_reducible refine (hend_ok hM HW.out H1.out.drew).mono ?_
         rintro e w2 ⟨rfl, hH2⟩
         rw [HEND.out]
         obtain ⟨k0, k1, k2⟩ := HB.out _ _ _ hH2 (by simp))
      | (go_at_call 88
         with_reducible refine (hepoch_ok hM HW.out (by have := HO.out.small; have := HO.out.fl; rw [this]; omega) hH2).mono ?_
         rintro e w3 ⟨rfl, hH3⟩
         rw [HEP.out]
         obtain ⟨k0, k1, k2⟩ := HB.out _ _ _ hH3 (by simp)))
  have H3 := Lib.hid hH3
  clear hH2 hH3
  go_wp2_with fail
  refine (hlast_ok hM HL.out hl0n H3.out).mono ?_
  rintro e w4 ⟨rfl, hH4⟩
  obtain ⟨k0, k1, k2⟩ := HB.out _ _ _ hH4 (by simp)
  obtain ⟨-, c1, -, -⟩ := HAT.out _ P _ hH4
  obtain ⟨A1, R, hG1, hp, hput⟩ := hM.focus (l2 := []) HL.out
  obtain ⟨z, hz⟩ : ∃ z, sizes G.l = z := ⟨_, rfl⟩
  have HZ := Lib.hid hz
  have HP := Lib.hid hp
  have HPUT := Lib.hid hput
  have H4 := Lib.hid hH4
  obtain ⟨q, hq⟩ : ∃ q, szB x = q := ⟨_, rfl⟩
  have HQ := Lib.hid hq
  rw [hq] at hsz
  have HGW : Hid (SgW G) := HW.out.g (s, G) (by rw [HL.out]; simp)
  have HDG : Hid (DkM P G.d D Ad) := by show DkM P G.d D Ad; rw [HGD.out]; exact hD
  have hsg0 : (0 : Int) ≤ (H.seg : Int) := by omega
  have hzb : z ≤ 4194304 := by have := HGO.out.size; omega
  have hcs : z = 0 ∨ (0 < z ∧ z + q ≤ H.seg) ∨ (0 < z ∧ H.seg < z + q) := by omega
  clear hz hp hput hH4 hq
  rcases hcs with hz0 | ⟨hzp, hfit⟩ | ⟨hzp, hrol⟩
  case' inl =>
    subst hz0
    have HNO : Hid (¬ (0 < sizes G.l ∧ H.seg < sizes G.l + szB x)) := by show ¬ _; rw [HZ.out]; omega
    clear k0 k1 k2 c1
    go_wp2_with fail
    refine wp_region_hp (by kernel_rfl) (by decide) _ _ H4.out (fun i _ v => match i with | 0 => v = ptr s | 1 => v = .int .i64 0 | 2 => v = .bool false | 3 => v = .bool false | 4 => v = undef | 5 => v = undef | 6 => v = undef | 7 => v = undef | 8 => v = undef | 9 => v = undef | 10 => v = undef | 11 => v = undef | 12 => v = undef | 13 => v = undef | 14 => v = undef | 15 => v = .bool false | _ => True) (by intro i P P' v _ h; exact h) ?_ ?_
    · intro i o ho u wq Pq hsq hHq hp K hK
      rcases i with _ | _ | _ | _ | _ | _ | _ | _ | _ | _ | _ | _ | _ | _ | _ | _ | i
      · cases ho
        simp only [frOf, Act.put, List.setIfInBounds_toArray, List.set_cons_zero, List.set_cons_succ, Nat.zero_add, Nat.reduceAdd] at hK ⊢
        go_simp
        exact hK _ wq Pq (Sub.refl _) hHq rfl
      · cases ho
        have h0 : u 0 = ptr s := hp ⟨0, .data⟩ (by simp) rfl
        simp only [frOf, Act.put, List.setIfInBounds_toArray, List.set_cons_zero, List.set_cons_succ, Nat.zero_add, Nat.reduceAdd] at hK ⊢
        simp only [h0] at hK ⊢
        go_simp
        with_reducible refine (ssize_any hG1 HGW.out (hHq.perm (HP.out _))).mono ?_
        rintro e w9 ⟨rfl, hH9⟩
        rw [HZ.out]
        exact hK _ _ Pq (Sub.refl _) (hH9.perm (HP.out _).symm) rfl
      · cases ho
        have h1 : u 1 = .int .i64 0 := hp ⟨1, .data⟩ (by simp) rfl
        simp only [frOf, Act.put, List.setIfInBounds_toArray, List.set_cons_zero, List.set_cons_succ, Nat.zero_add, Nat.reduceAdd] at hK ⊢
        simp only [h1] at hK ⊢
        go_simp
        exact hK _ wq Pq (Sub.refl _) hHq rfl
      · cases ho
        have h2 : u 2 = .bool false := hp ⟨2, .data⟩ (by simp) rfl
        simp only [frOf, Act.put, List.setIfInBounds_toArray, List.set_cons_zero, List.set_cons_succ, Nat.zero_add, Nat.reduceAdd] at hK ⊢
        simp only [h2] at hK ⊢
        go_simp
        exact hK _ wq Pq (Sub.refl _) hHq rfl
      · cases ho
        have h3 : u 3 = .bool false := hp ⟨3, .guard⟩ (by simp) rfl
        simp only [frOf, Act.put, List.setIfInBounds_toArray, List.set_cons_zero, List.set_cons_succ, Nat.zero_add, Nat.reduceAdd] at hK ⊢
        simp only [h3]
        first | exact trivial | (go_simp; done) | (rw [if_neg (by decide)]; trivial) | (rw [if_neg (Bool.not_eq_true _ ▸ (by kernel_rfl))]; trivial)
      · cases ho
        have h4 : u 4 = undef := hp ⟨4, .data⟩ (by simp) rfl
        have h3 : u 3 = .bool false := hp ⟨3, .guard⟩ (by simp) rfl
        simp only [frOf, Act.put, List.setIfInBounds_toArray, List.set_cons_zero, List.set_cons_succ, Nat.zero_add, Nat.reduceAdd] at hK ⊢
        simp only [h4, h3]
        first | exact trivial | (go_simp; done) | (rw [if_neg (by decide)]; trivial) | (rw [if_neg (Bool.not_eq_true _ ▸ (by kernel_rfl))]; trivial)
      · cases ho
        have h3 : u 3 = .bool false := hp ⟨3, .guard⟩ (by simp) rfl
        simp only [frOf, Act.put, List.setIfInBounds_toArray, List.set_cons_zero, List.set_cons_succ, Nat.zero_add, Nat.reduceAdd] at hK ⊢
        simp only [h3]
        first | exact trivial | (go_simp; done) | (rw [if_neg (by decide)]; trivial) | (rw [if_neg (Bool.not_eq_true _ ▸ (by kernel_rfl))]; trivial)
      · cases ho
        have h6 : u 6 = undef := hp ⟨6, .data⟩ (by simp) rfl
        have h3 : u 3 = .bool false := hp ⟨3, .guard⟩ (by simp) rfl
        simp only [frOf, Act.put, List.setIfInBounds_toArray, List.set_cons_zero, List.set_cons_succ, Nat.zero_add, Nat.reduceAdd] at hK ⊢
        simp only [h6, h3]
        first | exact trivial | (go_simp; done) | (rw [if_neg (by decide)]; trivial) | (rw [if_neg (Bool.not_eq_true _ ▸ (by kernel_rfl))]; trivial)
      · cases ho
        have h5 : u 5 = undef := hp ⟨5, .data⟩ (by simp) rfl
        have h7 : u 7 = undef := hp ⟨7, .data⟩ (by simp) rfl
        have h3 : u 3 = .bool false := hp ⟨3, .guard⟩ (by simp) rfl
        simp only [frOf, Act.put, List.setIfInBounds_toArray, List.set_cons_zero, List.set_cons_succ, Nat.zero_add, Nat.reduceAdd] at hK ⊢
        simp only [h5, h7, h3]
        first | exact trivial | (go_simp; done) | (rw [if_neg (by decide)]; trivial) | (rw [if_neg (Bool.not_eq_true _ ▸ (by kernel_rfl))]; trivial)
      · cases ho
        have h3 : u 3 = .bool false := hp ⟨3, .guard⟩ (by simp) rfl
        simp only [frOf, Act.put, List.setIfInBounds_toArray, List.set_cons_zero, List.set_cons_succ, Nat.zero_add, Nat.reduceAdd] at hK ⊢
        simp only [h3]
        first | exact trivial | (go_simp; done) | (rw [if_neg (by decide)]; trivial) | (rw [if_neg (Bool.not_eq_true _ ▸ (by kernel_rfl))]; trivial)
      · cases ho
        have h9 : u 9 = undef := hp ⟨9, .data⟩ (by simp) rfl
        have h3 : u 3 = .bool false := hp ⟨3, .guard⟩ (by simp) rfl
        simp only [frOf, Act.put, List.setIfInBounds_toArray, List.set_cons_zero, List.set_cons_succ, Nat.zero_add, Nat.reduceAdd] at hK ⊢
        simp only [h9, h3]
        first | exact trivial | (go_simp; done) | (rw [if_neg (by decide)]; trivial) | (rw [if_neg (Bool.not_eq_true _ ▸ (by kernel_rfl))]; trivial)
      · cases ho
        have h10 : u 10 = undef := hp ⟨10, .data⟩ (by simp) rfl
        have h3 : u 3 = .bool false := hp ⟨3, .guard⟩ (by simp) rfl
        simp only [frOf, Act.put, List.setIfInBounds_toArray, List.set_cons_zero, List.set_cons_succ, Nat.zero_add, Nat.reduceAdd] at hK ⊢
        simp only [h10, h3]
        first | exact trivial | (go_simp; done) | (rw [if_neg (by decide)]; trivial) | (rw [if_neg (Bool.not_eq_true _ ▸ (by kernel_rfl))]; trivial)
      · cases ho
        have h11 : u 11 = undef := hp ⟨11, .data⟩ (by simp) rfl
        have h3 : u 3 = .bool false := hp ⟨3, .guard⟩ (by simp) rfl
        simp only [frOf, Act.put, List.setIfInBounds_toArray, List.set_cons_zero, List.set_cons_succ, Nat.zero_add, Nat.reduceAdd] at hK ⊢
        simp only [h11, h3]
        first | exact trivial | (go_simp; done) | (rw [if_neg (by decide)]; trivial) | (rw [if_neg (Bool.not_eq_true _ ▸ (by kernel_rfl))]; trivial)
      · cases ho
        have h12 : u 12 = undef := hp ⟨12, .data⟩ (by simp) rfl
        have h3 : u 3 = .bool false := hp ⟨3, .guard⟩ (by simp) rfl
        simp only [frOf, Act.put, List.setIfInBounds_toArray, List.set_cons_zero, List.set_cons_succ, Nat.zero_add, Nat.reduceAdd] at hK ⊢
        simp only [h12, h3]
        first | exact trivial | (go_simp; done) | (rw [if_neg (by decide)]; trivial) | (rw [if_neg (Bool.not_eq_true _ ▸ (by kernel_rfl))]; trivial)
      · cases ho
        have h8 : u 8 = undef := hp ⟨8, .data⟩ (by simp) rfl
        have h13 : u 13 = undef := hp ⟨13, .data⟩ (by simp) rfl
        have h3 : u 3 = .bool false := hp ⟨3, .guard⟩ (by simp) rfl
        simp only [frOf, Act.put, List.setIfInBounds_toArray, List.set_cons_zero, List.set_cons_succ, Nat.zero_add, Nat.reduceAdd] at hK ⊢
        simp only [h8, h13, h3]
        first | exact trivial | (go_simp; done) | (rw [if_neg (by decide)]; trivial) | (rw [if_neg (Bool.not_eq_true _ ▸ (by kernel_rfl))]; trivial)
      · cases ho
        have h3 : u 3 = .bool false := hp ⟨3, .data⟩ (by simp) rfl
        have h14 : u 14 = undef := hp ⟨14, .data⟩ (by simp) rfl
        simp only [frOf, Act.put, List.setIfInBounds_toArray, List.set_cons_zero, List.set_cons_succ, Nat.zero_add, Nat.reduceAdd] at hK ⊢
        simp only [h3, h14] at hK ⊢
        go_simp
        exact hK _ wq Pq (Sub.refl _) hHq rfl
      · exact absurd ho (by simp)
    intro u wq Pq hsq hHq hR
    have h15 : u 15 = .bool false := hR 15 (by decide)
    simp only [frOf, List.setIfInBounds_toArray, List.set_cons_zero, List.set_cons_succ, Nat.zero_add, Nat.reduceAdd]
    simp only [h15]
    have H5 := Lib.hid (hHq.weaken hsq)
    clear hR hHq hsq h15
    obtain ⟨k0, k1, k2⟩ := HB.out _ _ _ H5.out (by simp)
    go_wp2_with fail
  case' inr.inl =>
    have HNO : Hid (¬ (0 < sizes G.l ∧ H.seg < sizes G.l + szB x)) := by show ¬ _; rw [HZ.out, HQ.out]; omega
    have i1 : (0 : Int) < (z : Int) := by omega
    have i2 : ¬ (H.seg : Int) < (z : Int) + (q : Int) := by omega
    have i3 : IntKind.i64.wrap ((z : Int) + (q : Int)) = (z : Int) + (q : Int) := IntWalk.i64_in _ (by omega)
    go_wp2_with fail
    go_region_held3 (fun w' => w'.cell? ⟨w.heap.size, 0, none⟩ = some (.int .i64 x.b) ∧ w'.cell? ⟨w.heap.size, 1, none⟩ = some (.int .i64 x.e) ∧ w'.cell? ⟨w.heap.size, 2, none⟩ = some (.slice ra x.r.length rc) ∧ w'.cell? ⟨h, 1, none⟩ = some (.int .i64 H.seg))
      (first
        | go_keep
        | exact ⟨k0, k1, k2, c1⟩)
      (first
        | (go_at_call 18
           with_reducible refine (ssize_any hG1 HGW.out (H4.out.drew.perm (HP.out _))).mono ?_
           rintro e w5 ⟨rfl, hHa⟩
           rw [HZ.out]
           have hHd := hHa.perm (HP.out _).symm
           obtain ⟨k0, k1, k2⟩ := HB.out _ _ _ hHd (by simp)
           obtain ⟨-, c1, -, -⟩ := HAT.out _ P _ hHd)
        | (go_at_call 18
           with_reducible refine (ssize_any hG1 HGW.out hHa).mono ?_
           rintro e w6 ⟨rfl, hHb⟩
           rw [HZ.out]
           have hHe := hHb.perm (HP.out _).symm
           have hbv : BtV w6 (.agg #[.int .i64 x.b, .int .i64 x.e, .slice ra x.r.length rc]) x := hHe.use HV.out
           obtain ⟨k0, k1, k2⟩ := HB.out _ _ _ hHe (by simp)
           obtain ⟨-, c1, -, -⟩ := HAT.out _ P _ hHe)
        | (go_at_call 89
           with_reducible refine (size_q C x HK.out hxb _ hbv hHe q HQ.out).mono ?_
           rintro e w7 ⟨rfl, hHc⟩
           obtain ⟨k0, k1, k2⟩ := HB.out _ _ _ hHc (by simp)
           obtain ⟨-, c1, -, -⟩ := HAT.out _ P _ hHc))
    have H5 := Lib.hid hHc
    clear hHa hHb hHc hHd hHe hbv
    go_wp2_with fail
  case' inr.inr =>
    have HYES : Hid (0 < sizes G.l ∧ H.seg < sizes G.l + szB x) := by show _ ∧ _; rw [HZ.out, HQ.out]; omega
    have i1 : (0 : Int) < (z : Int) := by omega
    have i2 : (H.seg : Int) < (z : Int) + (q : Int) := by omega
    have i3 : IntKind.i64.wrap ((z : Int) + (q : Int)) = (z : Int) + (q : Int) := IntWalk.i64_in _ (by omega)
    go_wp2_with fail
    go_region_held3 (fun w' => w'.cell? ⟨w.heap.size, 0, none⟩ = some (.int .i64 x.b) ∧ w'.cell? ⟨w.heap.size, 1, none⟩ = some (.int .i64 x.e) ∧ w'.cell? ⟨w.heap.size, 2, none⟩ = some (.slice ra x.r.length rc) ∧ w'.cell? ⟨h, 1, none⟩ = some (.int .i64 H.seg))
      (first
        | go_keep
        | exact ⟨k0, k1, k2, c1⟩)
      (first
        | (go_at_call 18
           with_reducible refine (ssize_any hG1 HGW.out (H4.out.drew.perm (HP.out _))).mono ?_
           rintro e w5 ⟨rfl, hHa⟩
           rw [HZ.out]
           have hHd := hHa.perm (HP.out _).symm
           obtain ⟨k0, k1, k2⟩ := HB.out _ _ _ hHd (by simp)
           obtain ⟨-, c1, -, -⟩ := HAT.out _ P _ hHd)
        | (go_at_call 18
           with_reducible refine (ssize_any hG1 HGW.out hHa).mono ?_
           rintro e w6 ⟨rfl, hHb⟩
           rw [HZ.out]
           have hHe := hHb.perm (HP.out _).symm
           have hbv : BtV w6 (.agg #[.int .i64 x.b, .int .i64 x.e, .slice ra x.r.length rc]) x := hHe.use HV.out
           obtain ⟨k0, k1, k2⟩ := HB.out _ _ _ hHe (by simp)
           obtain ⟨-, c1, -, -⟩ := HAT.out _ P _ hHe)
        | (go_at_call 89
           with_reducible refine (size_q C x HK.out hxb _ hbv hHe q HQ.out).mono ?_
           rintro e w7 ⟨rfl, hHc⟩
           obtain ⟨k0, k1, k2⟩ := HB.out _ _ _ hHc (by simp)
           obtain ⟨-, c1, -, -⟩ := HAT.out _ P _ hHc))
    have H5 := Lib.hid hHc
    clear hHa hHb hHc hHd hHe hbv
    go_wp2_with fail
    have hHs : Hp _ P (A1 ++ (Ad ++ (R ++ ((w.heap.size, .cells #[.int .i64 x.b, .int .i64 x.e, .slice ra x.r.length rc] 38 (0, 0)) :: F)))) := (H5.out.perm (HP.out _)).perm (List.Perm.append_left A1 (perm_mid R Ad _))
    refine (ssync_on C hG1 HGO.out HDG.out hHs).mono ?_
    rintro e w8 ⟨rfl, A8, Ad8, D8, hG8, hD8, hO8, hsm8, hu8, hl8, hH8⟩
    obtain ⟨A9, hM9, hp9⟩ := HPUT.out G.syn A8 hG8
    have hO9 := HO.out.sync HL.out hO8 hsm8 hu8 hl8
    have hH9 : Hp w8 P (Ad8 ++ (A9 ++ ((w.heap.size, .cells #[.int .i64 x.b, .int .i64 x.e, .slice ra x.r.length rc] 38 (0, 0)) :: F))) := by
      have h1 := hH8.perm (List.Perm.append_left A8 (perm_mid Ad8 R _))
      have h2 := h1.perm (hp9 _)
      exact Hp.mid h2
    obtain ⟨bn, hbn⟩ : ∃ bn : Nat, x.b = (bn : Int) := ⟨x.b.toNat, by have := HK.out.b0; omega⟩
    have hend9 : Hl.end_ { H with L := L0 ++ [(s, G.syn)] } = (bn : Int) := by
      rw [← hbn, ← HGEND.out]; simp [Hl.end_, Sg.syn, Sg.end_]
    have hfull9 : ∀ K0 s' G', (L0 ++ [(s, G.syn)]) = K0 ++ [(s', G')] → G'.l ≠ [] ∧ G'.kept = sizes G'.l := by
      intro K0 s' G' e
      obtain ⟨-, e2⟩ := List.append_inj' e rfl
      have e3 : G.syn = G' := by simp at e2; exact e2.2
      rw [← e3]
      refine ⟨fun h0 => ?_, rfl⟩
      have h0' : G.l = [] := h0
      have := HZ.out
      rw [h0'] at this
      simp [sizes] at this
      omega
    have hb9 : (bn : Int) = endOf b0 l := by rw [← hbn]; exact HXB.out
    have hbn1 : bn ≤ 1099511627776 := by have := HK.out.b1; omega
    obtain ⟨hnew9, hlk9⟩ := hO9.fresh (fun K0 s' G' e => (hfull9 K0 s' G' e).1) bn hb9 hbn1
    obtain ⟨a9, c9, hc9, hat9⟩ := hM9.at_
    obtain ⟨y0, -, y2, -⟩ := hat9 _ P _ (Hp.mid hH9)
    have hHb9 := HB.out _ _ _ hH9 (by simp)
    have H9 := Lib.hid hH9
    have HM9 := Lib.hid hM9
    have HO9 := Lib.hid hO9
    have HD9 := Lib.hid (show DkM P H.d D8 Ad8 from by have := hD8; rw [HGD.out] at this; exact this)
    have HSM8 := Lib.hid hsm8
    have HU8 := Lib.hid hu8
    have HEND9 := Lib.hid hend9
    have HFULL9 := Lib.hid hfull9
    have HNEW9 := Lib.hid hnew9
    have HLK9 := Lib.hid hlk9
    have HB9 := Lib.hid hb9
    have HBN := Lib.hid hbn
    have HAT9 := Lib.hid hat9
    have he1 := HO.out.e1
    have he2 := HO.out.e2
    clear hHs hH8 hH9 hM9 hO9 hD8 hO8 hG8 hsm8 hu8 hl8 hend9 hfull9 hnew9 hlk9 hb9 hbn hat9 hp9 hHb9 k0 k1 k2 c1
    go_wp2_with fail
    go_region_held3 (fun w' => w'.cell? ⟨h, 0, none⟩ = some (ptr H.d) ∧ w'.cell? ⟨h, 2, none⟩ = some (.int .i64 H.every))
      (first
        | go_keep
        | exact ⟨y0, y2⟩)
      (first
        | (go_at_call 32
           with_reducible refine (hend_ok HM9.out HO9.out.W (Hp.mid H9.out.drew)).mono ?_
           rintro e w10 ⟨rfl, hHa⟩
           rw [HEND9.out]
           obtain ⟨y0, -, y2, -⟩ := HAT9.out _ P _ hHa)
        | (go_at_call 90
           with_reducible refine (screate_hot C HD9.out HO9.out.I bn hbn1 H.every he1 he2 HLK9.out (by rw [HSM8.out.n]; omega) (by rw [HO9.out.nml]; have := HO9.out.small.2; omega) (by rw [HO9.out.c0]; omega) HO9.out.room HO9.out.used (Hp.mid hHa)).mono ?_
           rintro e w11 ⟨s2, A11, Ad11, D11, rfl, hG11, hD11, hO11, hMd, hHb⟩
           have hHc : Hp w11 P (A9 ++ (A11 ++ (Ad11 ++ ((w.heap.size, .cells #[.int .i64 x.b, .int .i64 x.e, .slice ra x.r.length rc] 38 (0, 0)) :: F)))) := by
             have := Hp.mid (A := A11 ++ Ad11) (B := A9) (C := (w.heap.size, .cells #[.int .i64 x.b, .int .i64 x.e, .slice ra x.r.length rc] 38 (0, 0)) :: F) (by simpa [List.append_assoc] using hHb)
             simpa [List.append_assoc] using this
           obtain ⟨y0, -, y2, -⟩ := HAT9.out _ P _ hHc))
    obtain ⟨lv, Al, As, hA9, hr9, hS9⟩ := HM9.out
    obtain ⟨la, lc, rfl⟩ := hr9.shape
    obtain ⟨n9, hn9⟩ : ∃ n9, (L0 ++ [(s, G.syn)]).length = n9 := ⟨_, rfl⟩
    have hr9' : RowM 41 1 (.slice la n9 lc) n9 (ptrsL (L0 ++ [(s, G.syn)])) Al := by rw [← hn9]; exact hr9
    have hn9l : n9 ≤ 1000000 := by rw [← hn9]; have := HO9.out.small.2; exact Nat.le_trans this (by omega)
    rw [show (Hl.L { H with L := L0 ++ [(s, G.syn)] }).length = n9 from hn9] at hA9
    rw [hA9] at hHc
    have hHd : Hp w11 P (Al ++ ((h, Obj.cells (hlCells { H with L := L0 ++ [(s, G.syn)] } (.slice la n9 lc)) 119 (0, 0)) :: (As ++ (A11 ++ (Ad11 ++ ((w.heap.size, .cells #[.int .i64 x.b, .int .i64 x.e, .slice ra x.r.length rc] 38 (0, 0)) :: F)))))) := by
      have := perm_mid [(h, Obj.cells (hlCells { H with L := L0 ++ [(s, G.syn)] } (.slice la n9 lc)) 119 (0, 0))] Al (As ++ (A11 ++ (Ad11 ++ ((w.heap.size, .cells #[.int .i64 x.b, .int .i64 x.e, .slice ra x.r.length rc] 38 (0, 0)) :: F))))
      exact hHc.perm (by simpa [List.append_assoc] using this)
    have z3 : w11.cell? ⟨h, 3, none⟩ = some (.slice la n9 lc) := (@Hp.cell _ _ _ hHd h (hlCells { H with L := L0 ++ [(s, G.syn)] } (.slice la n9 lc)) 119 (0, 0) (by simp)) (i := 3) rfl
    have H11 := Lib.hid hHd
    have HR9 := Lib.hid hr9'
    have HS9 := Lib.hid hS9
    have HG11 := Lib.hid hG11
    have HD11 := Lib.hid hD11
    have HO11 := Lib.hid hO11
    have HMD := Lib.hid hMd
    have HN9 := Lib.hid hn9
    clear hHa hHb hHc hHd hr9 hr9' hS9 hG11 hD11 hO11 hMd hn9 hA9 y0 y2
    go_wp2_with (at_builtin; refine wpList_push_hp rfl _ _ _ rfl 41 _ 1 8 Tryz.underlying117 infoSp rfl (by omega) (.slice la n9 lc) n9 (ptrsL (L0 ++ [(s, G.syn)])) rfl H11.out HR9.out #[ptr s2] rfl rfl (by intro u hu; simp at hu; subst hu; rfl) (by omega) (by omega) ?_)
    intro g7 c7 w12 A12 hr12 hH12
    have hH13 := Hp.mid (A := A12) (B := [(h, Obj.cells (hlCells { H with L := L0 ++ [(s, G.syn)] } (.slice la n9 lc)) 119 (0, 0))]) hH12
    have f3 := @Hp.frozen _ _ _ hH13 h (hlCells { H with L := L0 ++ [(s, G.syn)] } (.slice la n9 lc)) 119 (by simp) 3
    have z3' : w12.cell? ⟨h, 3, none⟩ = some (.slice la n9 lc) := (@Hp.cell _ _ _ hH13 h (hlCells { H with L := L0 ++ [(s, G.syn)] } (.slice la n9 lc)) 119 (0, 0) (by simp)) (i := 3) rfl
    have H13 := Lib.hid hH13
    have HR12 := Lib.hid hr12
    clear hH12 hH13 hr12 z3
    go_wp2_with fail
    have hz := Hp.set (M := A12 ++ (As ++ (A11 ++ (Ad11 ++ ((w.heap.size, .cells #[.int .i64 x.b, .int .i64 x.e, .slice ra x.r.length rc] 38 (0, 0)) :: F))))) H13.out 3 (.slice (some ⟨g7, 0, none⟩) (n9 + 1) c7)
    have hM14 := HlM.pushed (h := h) (s := s2) (H := { H with L := L0 ++ [(s, G.syn)] }) HN9.out.symm HR12.out HS9.out HG11.out
    have hO14 := HO9.out.more HFULL9.out bn HB9.out s2 HO11.out HMD.out.room HMD.out.used HMD.out.nml (by rw [HMD.out.n, HSM8.out.n]; omega) HMD.out.ch HMD.out.kp HMD.out.lk HNEW9.out
    generalize hw14 : w12.setCell ⟨h, 3, none⟩ (.slice (some ⟨g7, 0, none⟩) (n9 + 1) c7) = w14
    rw [hw14] at hz
    obtain ⟨A14, hA14⟩ : ∃ A14, A14 = (h, Obj.cells (hlCells { H with L := L0 ++ [(s, G.syn)] } (.slice (some ⟨g7, 0, none⟩) (n9 + 1) c7)) 119 (0, 0)) :: (A12 ++ (As ++ A11)) := ⟨_, rfl⟩
    rw [← hA14] at hM14
    have hH14 : Hp w14 P (A14 ++ (Ad11 ++ ((w.heap.size, .cells #[.int .i64 x.b, .int .i64 x.e, .slice ra x.r.length rc] 38 (0, 0)) :: F))) := by
      rw [hA14]
      simpa [hlCells, List.append_assoc] using hz
    obtain ⟨G2, hG2⟩ : ∃ G2 : Sg, G2 = ⟨H.d, segNm bn, bn, H.every, [], 0⟩ := ⟨_, rfl⟩
    have hL14 : Hl.L { H with L := (L0 ++ [(s, G.syn)]) ++ [(s2, G2)] } = (L0 ++ [(s, G.syn)]) ++ [(s2, G2)] := rfl
    dsimp only at hM14 hO14
    rw [← hG2] at hM14 hO14
    obtain ⟨A15, R15, hG15, hp15, hput15⟩ := hM14.focus (l2 := []) hL14
    obtain ⟨k0, k1, k2⟩ := HB.out _ _ _ hH14 (by simp)
    have hfo15 : G2.foll x = true := by
      rw [hG2]
      unfold Sg.foll
      rw [Bool.and_eq_true, decide_eq_true_eq, decide_eq_true_eq]
      exact ⟨HBN.out, HK.out.e0⟩
    have hO15 : SegOn D11 G2 := by rw [hG2]; exact HO11.out
    have hDG15 : DkM P G2.d D11 Ad11 := by rw [hG2]; exact HD11.out
    have hroom15 : D11.used + szB x ≤ D11.room := by rw [HMD.out.used, HMD.out.room, HU8.out, HSM8.out.room]; exact HRM.out
    have hl015 : (L0 ++ [(s, G.syn)]).length ≤ 1000000 := by rw [HN9.out]; exact hn9l
    have HM14 := Lib.hid hM14
    have HO14 := Lib.hid hO14
    have H14 := Lib.hid hH14
    have HP15 := Lib.hid hp15
    have HPUT15 := Lib.hid hput15
    have HFO15 := Lib.hid hfo15
    have HO15 := Lib.hid hO15
    have HDG15 := Lib.hid hDG15
    have HRM15 := Lib.hid hroom15
    have HG2L : Hid (G2.l = []) := by show _ = _; rw [hG2]
    have HG2D : Hid (G2.d = H.d) := by show _ = _; rw [hG2]
    have HL15 := Lib.hid hl015
    clear hz hM14 hO14 hH14 hA14 hp15 hput15 hfo15 hO15 hDG15 hroom15 hL14 hG2 hl015 f3 z3'
    go_wp2_with fail
    go_region_held3 (fun w' => w'.cell? ⟨w.heap.size, 0, none⟩ = some (.int .i64 x.b) ∧ w'.cell? ⟨w.heap.size, 1, none⟩ = some (.int .i64 x.e) ∧ w'.cell? ⟨w.heap.size, 2, none⟩ = some (.slice ra x.r.length rc))
      (first
        | go_keep
        | exact ⟨k0, k1, k2⟩)
      (first
        | (go_at_call 64
           with_reducible refine (hlast_ok HM14.out rfl HL15.out H14.out.drew).mono ?_
           rintro e w15 ⟨rfl, hHa⟩
           have hHs : Hp w15 P (A15 ++ (Ad11 ++ (R15 ++ ((w.heap.size, .cells #[.int .i64 x.b, .int .i64 x.e, .slice ra x.r.length rc] 38 (0, 0)) :: F)))) := (hHa.perm (HP15.out _)).perm (List.Perm.append_left A15 (perm_mid R15 Ad11 _))
           obtain ⟨k0, k1, k2⟩ := HB.out _ _ _ hHa (by simp))
        | (go_at_call 91
           with_reducible refine (sappend_on C hG15 HO15.out HDG15.out x HK.out hxb _ HV.out HFO15.out HRM15.out hHs).mono ?_
           rintro e w16 ⟨rfl, P16, A16, Ad16, D16, hs16, hG16, hD16, hO16, hsm16, hu16, hl16, hHb⟩
           obtain ⟨k0, k1, k2⟩ := HB.out _ _ _ hHb (by simp)))
    obtain ⟨A17, hM17, hp17⟩ := HPUT15.out (G2.push x) A16 hG16
    have hO17 := HO14.out.push rfl x hO16 hsm16 hu16 HRM15.out hl16 HCH.out
    have hH17 := (hHb.perm (List.Perm.append_left A16 (perm_mid Ad16 R15 _))).perm (hp17 _)
    have hu17 : D16.used = D.used + szB x := by rw [hu16, HMD.out.used, HU8.out]
    have hr17 : D16.room = D.room := by rw [hsm16.room, HMD.out.room, HSM8.out.room]
    have hn17 : D16.n ≤ D.n + 1 := by rw [hsm16.n, HMD.out.n, HSM8.out.n]; omega
    have hA17 := apd_roll (D' := D16) HL.out x HYES.out s2 G2 HG2L.out hr17 hu17 hn17
    have HFIN : Hid (∃ P' A' Ad' D' H', Sub P P' ∧ HlM h H' A' ∧ DkM P' H.d D' Ad' ∧ HotOn D' H' b0 (l ++ [x]) ∧ Apd H H' D D' x ∧ Hp w16 P' (A' ++ (Ad' ++ F))) := ⟨P16, A17, Ad16, D16, _, hs16, hM17, by rw [← HG2D.out]; exact hD16, hO17, hA17, box_off hH17⟩
    clear hHa hHb hHs hG16 hD16 hO16 hsm16 hu16 hl16 hM17 hp17 hO17 hH17 hu17 hr17 hn17 hA17
    go_wp2_with fail
    go_ret
    exact ⟨rfl, HFIN.out⟩
  all_goals
    go_region_held3 (fun w' => w'.cell? ⟨w.heap.size, 0, none⟩ = some (.int .i64 x.b) ∧ w'.cell? ⟨w.heap.size, 1, none⟩ = some (.int .i64 x.e) ∧ w'.cell? ⟨w.heap.size, 2, none⟩ = some (.slice ra x.r.length rc))
      (first
        | go_keep
        | exact ⟨k0, k1, k2⟩)
      (first
        | (go_at_call 64
           with_reducible refine (hlast_ok hM HL.out hl0n H5.out.drew).mono ?_
           rintro e w15 ⟨rfl, hHa⟩
           have hHs : Hp w15 P (A1 ++ (Ad ++ (R ++ ((w.heap.size, .cells #[.int .i64 x.b, .int .i64 x.e, .slice ra x.r.length rc] 38 (0, 0)) :: F)))) := (hHa.perm (HP.out _)).perm (List.Perm.append_left A1 (perm_mid R Ad _))
           obtain ⟨k0, k1, k2⟩ := HB.out _ _ _ hHa (by simp))
        | (go_at_call 91
           with_reducible refine (sappend_on C hG1 HGO.out HDG.out x HK.out hxb _ HV.out HFO.out HRM.out hHs).mono ?_
           rintro e w16 ⟨rfl, P16, A16, Ad16, D16, hs16, hG16, hD16, hO16, hsm16, hu16, hl16, hHb⟩
           obtain ⟨k0, k1, k2⟩ := HB.out _ _ _ hHb (by simp)))
    obtain ⟨A17, hM17, hp17⟩ := HPUT.out (G.push x) A16 hG16
    have hO17 := HO.out.push HL.out x hO16 hsm16 hu16 HRM.out hl16 HCH.out
    have hH17 := (hHb.perm (List.Perm.append_left A16 (perm_mid Ad16 R _))).perm (hp17 _)
    have hA17 := apd_push HL.out x HNO.out hsm16 hu16
    have HFIN : Hid (∃ P' A' Ad' D' H', Sub P P' ∧ HlM h H' A' ∧ DkM P' H.d D' Ad' ∧ HotOn D' H' b0 (l ++ [x]) ∧ Apd H H' D D' x ∧ Hp w16 P' (A' ++ (Ad' ++ F))) := ⟨P16, A17, Ad16, D16, _, hs16, hM17, by rw [← HGD.out]; exact hD16, hO17, hA17, box_off hH17⟩
    clear hHa hHb hHs hG16 hD16 hO16 hsm16 hu16 hl16 hM17 hp17 hO17 hH17 hA17
    go_wp2_with fail
    go_ret
    exact ⟨rfl, HFIN.out⟩
end
end Go.Proofs.YtncjffkpkmjgkaaGreatDoor.Sg
