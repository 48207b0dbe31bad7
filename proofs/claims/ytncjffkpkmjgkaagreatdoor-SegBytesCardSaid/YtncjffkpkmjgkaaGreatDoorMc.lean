/- The disk in memory; begin, file. disk.file, disk.find. disk.apply, disk.change. disk.change. Ranging over a map, in parts of memory; disk.Used. disk.Used. disk.find, disk.Len; a file of a disk taken out and laid back. A file of a disk taken out and laid back; disk.Len, Sync. Cuts of bytes; disk.Read. slices.Clip of bytes; disk.Append. disk.Append refused; disk.Cut. maps.Clone at the disk's names; disk.SyncDir. disk.New, Create. A disk by its names: what each call makes of it. A region that draws its order, each operation once: an invariant over what has been done. append of one element, its box laid by for good, to a row of one's own: at a step of a region. -/
import Derived.Test.YtncjffkpkmjgkaaGreatDoorMb
import Derived.StringKeys
import Derived.Lib.LaidTab
import Derived.Lib.ItoaNum
import Derived.ArgAppend
import Derived.IntWalk
import Derived.Shelf.SlMaps.Clone

/-! Da -/
namespace Go.Proofs.YtncjffkpkmjgkaaGreatDoor.Sg
open Go.RowKit Er Go.Maps

abbrev ptr (b : Nat) : Value := .pointer (some ⟨b, 0, none⟩)
def optPtr : Option Nat → Value | none => .pointer none | some b => ptr b
abbrev Nam := List UInt8
abbrev str (s : Nam) : Value := .string ⟨s.toArray⟩

/-- A file: its block, the how manieth it is, its bytes, how many of them are synced. -/
structure Fl where
  blk : Nat
  id : Nat
  b : List Nat
  s : Nat
structure Ch where
  nm : Nam
  gone : Nam
  f : Option Nat
structure Dk where
  room : Nat
  nm : List (Nam × Nat)
  kp : List (Nam × Nat)
  ch : List Ch
  fl : List Fl
  n : Nat
  arm : Nat
  down : Bool
  calls : Int

def kvOf (m : List (Nam × Nat)) : Kv := m.map fun p => (Lit.string p.1, ptr p.2)
def chV (c : Ch) : List Value := [str c.nm, str c.gone, optPtr c.f]

/-- The files' blocks. -/
def FlsM (P : Pm) : List Fl → Mm → Prop
  | [], A => A = []
  | f :: l, A => ∃ v A', A = (f.blk, Obj.cells #[.int .i64 f.id, v, .int .i64 f.s] 89 (0, 0)) :: A' ∧ Pers P (fun w => SlB w v f.b) ∧ FlsM P l A'

def dkCells (D : Dk) (nb kb : Nat) (cv : Value) : Array Value :=
  #[.int .i64 D.room, .map (some nb), .map (some kb), cv, .int .i64 D.n, .int .i64 D.arm, .bool D.down, .int .i64 D.calls]

/-- Files are numbered as they are made; no more of one is kept than there is. -/
def FlOk (D : Dk) : Prop := ∀ f, f ∈ D.fl → f.id ≤ D.n ∧ f.s ≤ f.b.length

/-- A disk's blocks, its own one ahead. -/
def DkM (P : Pm) (d : Nat) (D : Dk) (A : Mm) : Prop := ∃ nb no kb ko cv Ac Af,
  A = (d, Obj.cells (dkCells D nb kb cv) 82 (0, 0)) :: (nb, no) :: (kb, ko) :: (Ac ++ Af) ∧ MapO 9 no (kvOf D.nm) ∧ MapO 9 ko (kvOf D.kp) ∧
    RowM 91 3 cv D.ch.length (D.ch.flatMap chV) Ac ∧ FlsM P D.fl Af ∧ D.arm ≤ 1099511627776 ∧ FlOk D

theorem FlsM.sub {P P' : Pm} (s : Sub P P') : ∀ {l : List Fl} {A : Mm}, FlsM P l A → FlsM P' l A
  | [], _, h => h
  | _ :: _, _, ⟨v, A', h1, h2, h3⟩ => ⟨v, A', h1, h2.sub s, FlsM.sub s h3⟩
theorem DkM.sub {P P' : Pm} {d : Nat} {D : Dk} {A : Mm} (h : DkM P d D A) (s : Sub P P') : DkM P' d D A := by
  obtain ⟨nb, no, kb, ko, cv, Ac, Af, h1, h2, h3, h4, h5, h6⟩ := h
  exact ⟨nb, no, kb, ko, cv, Ac, Af, h1, h2, h3, h4, h5.sub s, h6⟩

theorem FlsM.app {P : Pm} : ∀ {l1 l2 : List Fl} {A : Mm}, FlsM P (l1 ++ l2) A → ∃ A1 A2, A = A1 ++ A2 ∧ FlsM P l1 A1 ∧ FlsM P l2 A2
  | [], _, A, h => ⟨[], A, rfl, rfl, h⟩
  | f :: l1, l2, A, ⟨v, A', h1, h2, h3⟩ => by
    obtain ⟨A1, A2, rfl, h4, h5⟩ := FlsM.app h3
    exact ⟨_ :: A1, A2, by rw [h1]; rfl, ⟨v, A1, rfl, h2, h4⟩, h5⟩
theorem FlsM.join {P : Pm} : ∀ {l1 l2 : List Fl} {A1 A2 : Mm}, FlsM P l1 A1 → FlsM P l2 A2 → FlsM P (l1 ++ l2) (A1 ++ A2)
  | [], _, _, _, h, h' => by cases (show _ = [] from h); exact h'
  | f :: l1, l2, _, _, ⟨v, A', h1, h2, h3⟩, h' => ⟨v, A' ++ _, by rw [h1]; rfl, h2, FlsM.join h3 h'⟩

/-- What becomes of a call that changes, ahead of all. -/
def Dk.beg (D : Dk) : Dk := if D.down then D else if D.arm = 0 then D else if D.arm = 1 then { D with arm := 0, down := true } else { D with arm := D.arm - 1 }
def Dk.ok (D : Dk) : Bool := !D.down && D.arm != 1
def Dk.bc (D : Dk) : Nat := if D.ok then 0 else 110

set_option maxRecDepth 100000 in
set_option maxHeartbeats 400000 in
theorem begin_any {S : List Nat} {E : Nat → Addr} {B : Nat} (h9 : 9 ∈ S) (P : Pm) (hE : Pers P (fun w => Errs S w E B)) (d : Nat) (D : Dk) (A F : Mm) (hD : DkM P d D A) (w : World) (hH : Hp w P (A ++ F)) :
    Calls Tryz.prog 46 #[ptr d] w fun e w' => e = .returned (ev E D.bc) ∧ ∃ A', DkM P d D.beg A' ∧ Hp w' P (A' ++ F) := by
  obtain ⟨nb, no, kb, ko, cv, Ac, Af, rfl, h2, h3, h4, h5, h6⟩ := hD
  have hm : (d, Obj.cells (dkCells D nb kb cv) 82 (0, 0)) ∈ ((d, Obj.cells (dkCells D nb kb cv) 82 (0, 0)) :: (nb, no) :: (kb, ko) :: (Ac ++ Af)) ++ F := by simp
  have c5 : w.cell? ⟨d, 5, none⟩ = some (.int .i64 D.arm) := hH.cell hm rfl
  have c6 : w.cell? ⟨d, 6, none⟩ = some (.bool D.down) := hH.cell hm rfl
  have f5 := hH.frozen hm 5
  have f6 := hH.frozen hm 6
  have ce : w.cell? ⟨8, 0, none⟩ = some (.iface 289 (.pointer (some (E 9)))) := (hH.use hE).at_ 9 h9
  have HH := Lib.hid hH
  clear hH hm
  by_cases hd : D.down = true
  · rw [hd] at c6
    have HR : Hid (ev E D.bc = .iface 289 (.pointer (some (E 9)))) := by simp only [Hid, Dk.bc, Dk.ok, hd]; exact ev_some E 9
    have HB : Hid (D.beg = D) := by simp [Hid, Dk.beg, hd]
    clear hd
    go_enter Tryz.func46, Tryz.ntmps46
    go_wp2
    go_ret
    exact ⟨by rw [HR.out]; rfl, _, by rw [HB.out]; exact ⟨nb, no, kb, ko, cv, Ac, Af, rfl, h2, h3, h4, h5, h6⟩, HH.out⟩
  · have hd' : D.down = false := by simpa using hd
    rw [hd'] at c6
    by_cases ha : D.arm = 0
    · rw [ha] at c5
      have HR : Hid (ev E D.bc = .nilIface) := by simp only [Hid, Dk.bc, Dk.ok, hd', ha]; exact ev_zero E
      have HB : Hid (D.beg = D) := by simp [Hid, Dk.beg, ha]
      clear hd hd' ha
      go_enter Tryz.func46, Tryz.ntmps46
      go_wp2
      go_ret
      exact ⟨by rw [HR.out]; rfl, _, by rw [HB.out]; exact ⟨nb, no, kb, ko, cv, Ac, Af, rfl, h2, h3, h4, h5, h6⟩, HH.out⟩
    · by_cases h1 : D.arm = 1
      · rw [h1] at c5
        have HR : Hid (ev E D.bc = .iface 289 (.pointer (some (E 9)))) := by simp only [Hid, Dk.bc, Dk.ok, hd', h1]; exact ev_some E 9
        have HB : Hid (D.beg = { D with arm := 0, down := true }) := by simp [Hid, Dk.beg, hd', h1]
        clear hd hd' ha h1
        go_enter Tryz.func46, Tryz.ntmps46
        go_wp2
        go_ret
        exact ⟨by rw [HR.out]; rfl, _, by rw [HB.out]; exact ⟨nb, no, kb, ko, cv, Ac, Af, rfl, h2, h3, h4, h5, Nat.zero_le _, h6.2⟩, ((HH.out.set 5 _).set 6 _)⟩
      · have hp : (0 : Int) < (D.arm : Int) := by omega
        have hp2 : 0 < D.arm := by omega
        have hp3 : (((D.arm : Int) - 1) == 0) = false := beq_eq_false_iff_ne.2 (by omega)
        have HR : Hid (ev E D.bc = .nilIface) := by simp [Hid, Dk.bc, Dk.ok, hd', h1]; exact ev_zero E
        have HB : Hid (D.beg = { D with arm := D.arm - 1 }) := by simp [Hid, Dk.beg, hd', ha, h1]
        have HA : Hid (((D.arm - 1 : Nat) : Int) = (D.arm : Int) - 1) := by simp only [Hid]; omega
        clear hd hd' ha h1
        go_enter Tryz.func46, Tryz.ntmps46
        go_wp2
        go_ret
        refine ⟨by rw [HR.out]; rfl, _, by rw [HB.out]; exact ⟨nb, no, kb, ko, cv, Ac, Af, rfl, h2, h3, h4, h5, by have := h6.1; dsimp only; omega, h6.2⟩, ?_⟩
        have := (HH.out.set 5 (.int .i64 ((D.arm : Int) - 1)))
        simpa [dkCells, HA.out] using this

end Go.Proofs.YtncjffkpkmjgkaaGreatDoor.Sg

/-! Db -/
namespace Go.Proofs.YtncjffkpkmjgkaaGreatDoor.Sg
open Go.RowKit Er Go.Maps

theorem strK : Keyed Tryz.prog 9 := string_keyed Tryz.underlying9
theorem zeroF (w : World) : (zeroValue 86).run Tryz.prog w = .ok (.pointer none) w := by kernel_rfl
theorem keyS (s : Nam) (h : s.length ≤ 1099511627776) : keyOf Tryz.prog 9 (str s) = some (.string s) := by
  have := Go.WideMaps.keyOf_string_mk (P := Tryz.prog) (k := 9) Tryz.underlying9 (s := ⟨s.toArray⟩) (by unfold maxLen; show s.toArray.size ≤ _; simp; omega)
  simpa using this

/-- Which file has a name. -/
def nfind (m : List (Nam × Nat)) (s : Nam) : Option Nat := (m.find? (fun p => p.1 == s)).map (·.2)
theorem kfind_kv (m : List (Nam × Nat)) (s : Nam) : kfind (kvOf m) (.string s) = (nfind m s).map ptr := by
  unfold kfind nfind kvOf
  induction m with
  | nil => rfl
  | cons p l ih =>
    rw [List.map_cons]
    by_cases e : p.1 = s
    · rw [List.find?_cons_of_pos (by simp [Lit.sameKey, e]), List.find?_cons_of_pos (by simp [e])]; rfl
    · rw [List.find?_cons_of_neg (by simp [Lit.sameKey, e]), List.find?_cons_of_neg (by simp [e])]; exact ih

/-- The disk has its names' blocks: for a look-up. -/
theorem look_nm {P : Pm} {M : Mm} {w : World} (hH : Hp w P M) {nb : Nat} {no : Obj} (hm : (nb, no) ∈ M) {m : List (Nam × Nat)} (ho : MapO 9 no (kvOf m)) (s : Nam) (hs : s.length ≤ 1099511627776) :
    (Instr.lookup 79 (.map (some nb)) (str s) false).run Tryz.prog w = .ok (optPtr (nfind m s)) w := by
  rw [hH.look hm ho strK Tryz.underlying79 (zeroF w) (keyS s hs), kfind_kv]
  cases nfind m s <;> rfl

/-- What a look for a file comes to. -/
def Dk.file (D : Dk) (s : Nam) : Except Nat Nat := if D.down then .error 110 else match nfind D.nm s with | none => .error 107 | some b => .ok b
def fres (E : Nat → Addr) (r : Except Nat Nat) : Value := match r with | .ok b => .tuple #[ptr b, .nilIface] | .error c => .tuple #[.pointer none, ev E c]

set_option maxRecDepth 100000 in
set_option maxHeartbeats 400000 in
theorem file_any {S : List Nat} {E : Nat → Addr} {B : Nat} (h6' : 6 ∈ S) (h9 : 9 ∈ S) (P : Pm) (hE : Pers P (fun w => Errs S w E B)) (d : Nat) (D : Dk) (A F : Mm) (hD : DkM P d D A) (s : Nam) (hs : s.length ≤ 1099511627776) (w : World) (hH : Hp w P (A ++ F)) :
    Calls Tryz.prog 100 #[ptr d, str s] w fun e w' => e = .returned (fres E (D.file s)) ∧ ∃ n, w' = w.drewN n := by
  obtain ⟨nb, no, kb, ko, cv, Ac, Af, rfl, h2, h3, h4, h5, h6⟩ := hD
  have hm : (d, Obj.cells (dkCells D nb kb cv) 82 (0, 0)) ∈ ((d, Obj.cells (dkCells D nb kb cv) 82 (0, 0)) :: (nb, no) :: (kb, ko) :: (Ac ++ Af)) ++ F := by simp
  have c1 : w.cell? ⟨d, 1, none⟩ = some (.map (some nb)) := hH.cell hm rfl
  have c6 : w.cell? ⟨d, 6, none⟩ = some (.bool D.down) := hH.cell hm rfl
  have hl := look_nm hH (nb := nb) (no := no) (by simp) h2 s hs
  have ce : w.cell? ⟨8, 0, none⟩ = some (.iface 289 (.pointer (some (E 9)))) := (hH.use hE).at_ 9 h9
  have cn : w.cell? ⟨4, 0, none⟩ = some (.iface 289 (.pointer (some (E 6)))) := (hH.use hE).at_ 6 h6'
  clear hH hm h2 h3 h4 h5 h6
  by_cases hd : D.down = true
  · rw [hd] at c6
    have HR : Hid (fres E (D.file s) = .tuple #[.pointer none, .iface 289 (.pointer (some (E 9)))]) := by
      simp only [Hid, Dk.file, hd, if_true, fres]; rw [show (110 : Nat) = 101 + 9 from rfl, ev_some]
    clear hd hl
    go_enter Tryz.func100, Tryz.ntmps100
    go_wp2
    go_quiet (fail)
    go_wp2
    go_ret2
    exact ⟨by rw [HR.out]; rfl, _, rfl⟩
  · have hd' : D.down = false := by simpa using hd
    rw [hd'] at c6
    cases hf : nfind D.nm s with
    | none =>
      rw [hf] at hl
      simp only [optPtr] at hl
      have HR : Hid (fres E (D.file s) = .tuple #[.pointer none, .iface 289 (.pointer (some (E 6)))]) := by
        simp only [Hid, Dk.file, hd', hf, Bool.false_eq_true, if_false, fres]; rw [show (107 : Nat) = 101 + 6 from rfl, ev_some]
      clear hd hd' hf
      go_enter Tryz.func100, Tryz.ntmps100
      go_wp2
      go_quiet (fail)
      go_wp2
      go_ret2
      exact ⟨by rw [HR.out]; rfl, _, rfl⟩
    | some b =>
      rw [hf] at hl
      simp only [optPtr] at hl
      have HR : Hid (fres E (D.file s) = .tuple #[ptr b, .nilIface]) := by simp only [Hid, Dk.file, hd', hf, Bool.false_eq_true, if_false, fres]
      clear hd hd' hf
      unfold ptr at hl
      go_enter Tryz.func100, Tryz.ntmps100
      go_wp2
      go_ret2
      exact ⟨by rw [HR.out]; rfl, 0, rfl⟩

end Go.Proofs.YtncjffkpkmjgkaaGreatDoor.Sg

/-! Dc -/
namespace Go.Proofs.YtncjffkpkmjgkaaGreatDoor.Sg
open Go.RowKit Er Go.Maps

def ndel (m : List (Nam × Nat)) (s : Nam) : List (Nam × Nat) := m.filter (fun p => !(p.1 == s))
def nput (m : List (Nam × Nat)) (s : Nam) (b : Nat) : List (Nam × Nat) := (s, b) :: ndel m s
theorem kdel_kv (m : List (Nam × Nat)) (s : Nam) : kdel (kvOf m) (.string s) = kvOf (ndel m s) := by
  unfold kdel kvOf ndel
  rw [List.filter_map]
  rfl
theorem kput_kv (m : List (Nam × Nat)) (s : Nam) (b : Nat) : kput (kvOf m) (.string s) (ptr b) = kvOf (nput m s b) := by
  unfold kput
  rw [kdel_kv]
  rfl
/-- A change of names. -/
def chg (m : List (Nam × Nat)) (c : Ch) : List (Nam × Nat) :=
  let m1 := if c.gone = [] then m else ndel m c.gone
  match c.f with | none => m1 | some b => nput m1 c.nm b

theorem chg_len (m : List (Nam × Nat)) (c : Ch) : (chg m c).length ≤ m.length + 1 := by
  have h1 : (if c.gone = [] then m else ndel m c.gone).length ≤ m.length := by
    split
    · exact Nat.le_refl _
    · exact List.length_filter_le _ _
  unfold chg
  cases c.f with
  | none => dsimp only; omega
  | some b =>
    have h2 := List.length_filter_le (fun p : Nam × Nat => !(p.1 == c.nm)) (if c.gone = [] then m else ndel m c.gone)
    unfold nput
    rw [List.length_cons]
    unfold ndel at *
    omega

theorem kv_len (m : List (Nam × Nat)) : (kvOf m).length = m.length := by simp [kvOf]

theorem eqs (s : Nam) (h : s = []) : str s = .string ⟨#[]⟩ := by rw [h]

set_option maxRecDepth 100000 in
set_option maxHeartbeats 400000 in
theorem apply_any (P : Pm) (nb : Nat) (no : Obj) (m : List (Nam × Nat)) (cn cg : Nam) (cf : Option Nat) (fv : Value) (hfv : Hid (optPtr cf = fv)) (F : Mm) (hm : MapO 9 no (kvOf m)) (hl : m.length < 1000000) (hn : cn.length ≤ 1000000) (hg : cg.length ≤ 1000000) (w : World) (hH : Hp w P ((nb, no) :: F)) :
    Calls Tryz.prog 73 #[.map (some nb), .agg #[str cn, str cg, fv]] w fun e w' => e = .returned (.tuple #[]) ∧ ∃ no', MapO 9 no' (kvOf (chg m ⟨cn, cg, cf⟩)) ∧ Hp w' P ((nb, no') :: F) := by
  obtain rfl : optPtr cf = fv := hfv
  have HB := Lib.hid ((hH.alloc (.cells #[str cn, str cg, optPtr cf] 91)).pick 1 rfl)
  have HM := Lib.hid hm
  clear hH hm
  by_cases hg0 : cg = []
  · subst hg0
    cases cf with
    | none =>
      have HC : Hid (chg m ⟨cn, [], none⟩ = m) := by simp [Hid, chg]
      dsimp only [optPtr] at *
      go_enter Tryz.func73, Tryz.ntmps73
      go_wp2
      go_end0
      refine ⟨rfl, no, ?_, (HB.out.pick 1 rfl).tail⟩
      rw [HC.out]; exact HM.out
    | some b =>
      have HC : Hid (kput (kvOf m) (.string cn) (ptr b) = kvOf (chg m ⟨cn, [], some b⟩)) := by simp only [Hid, kput_kv]; simp [chg]
      dsimp only [optPtr] at *
      go_enter Tryz.func73, Tryz.ntmps73
      go_wp2_with (at_mapUpdate; refine wpList_put_hp rfl _ _ _ 79 9 86 rfl strK Tryz.underlying79 nb rfl no (kvOf m) P _ HB.out HM.out ?h1 _ _ _ rfl rfl (keyS cn ?h2) ?_)
      case h1 => rw [kv_len]; omega
      case h2 => omega
      intro w1 no1 hH1 hm1
      have H1 := Lib.hid hH1
      have M1 := Lib.hid hm1
      clear hH1 hm1
      go_wp2
      go_end0
      refine ⟨rfl, no1, ?_, (H1.out.pick 1 rfl).tail⟩
      have := M1.out
      rw [HC.out] at this
      exact this
  · obtain ⟨x, xs, rfl⟩ := List.exists_cons_of_ne_nil hg0
    clear hg0
    have K1 : Hid (kdel (kvOf m) (.string (x :: xs)) = kvOf (ndel m (x :: xs))) := kdel_kv _ _
    go_enter Tryz.func73, Tryz.ntmps73
    go_wp2_with (at_delete; refine wpList_del_hp rfl _ _ 79 9 86 rfl strK Tryz.underlying79 nb rfl no (kvOf m) P _ HB.out HM.out _ _ rfl (keyS (x :: xs) ?h2) ?_)
    case h2 => exact Nat.le_trans hg (by omega)
    intro w1 no1 hH1 hm1
    have hH1' := hH1.pick 1 rfl
    have c0 : w1.cell? ⟨w.heap.size, 0, none⟩ = some (str cn) := hH1'.cell (List.mem_cons_self ..) rfl
    have c2 : w1.cell? ⟨w.heap.size, 2, none⟩ = some (optPtr cf) := hH1'.cell (List.mem_cons_self ..) rfl
    rw [K1.out] at hm1
    have H1 := Lib.hid hH1
    have M1 := Lib.hid hm1
    clear hH1 hm1 hH1'
    cases cf with
    | none =>
      have HC : Hid (chg m ⟨cn, x :: xs, none⟩ = ndel m (x :: xs)) := by simp [Hid, chg]
      dsimp only [optPtr] at *
      go_wp2
      go_end0
      refine ⟨rfl, no1, ?_, (H1.out.pick 1 rfl).tail⟩
      rw [HC.out]; exact M1.out
    | some b =>
      have HC : Hid (kput (kvOf (ndel m (x :: xs))) (.string cn) (ptr b) = kvOf (chg m ⟨cn, x :: xs, some b⟩)) := by simp only [Hid, kput_kv]; simp [chg]
      have hle : Hid ((ndel m (x :: xs)).length ≤ m.length) := List.length_filter_le _ _
      dsimp only [optPtr] at *
      go_wp2_with (at_mapUpdate; refine wpList_put_hp rfl _ _ _ 79 9 86 rfl strK Tryz.underlying79 nb rfl no1 (kvOf (ndel m (x :: xs))) P _ H1.out M1.out ?h1 _ _ _ rfl rfl (keyS cn ?h2) ?_)
      case h1 => rw [kv_len]; have := hle.out; omega
      case h2 => omega
      intro w2 no2 hH2 hm2
      have H2 := Lib.hid hH2
      have M2 := Lib.hid hm2
      clear hH2 hm2
      go_wp2
      go_end0
      refine ⟨rfl, no2, ?_, (H2.out.pick 1 rfl).tail⟩
      have := M2.out
      rw [HC.out] at this
      exact this

end Go.Proofs.YtncjffkpkmjgkaaGreatDoor.Sg

/-! Dd -/
namespace Go.Proofs.YtncjffkpkmjgkaaGreatDoor.Sg
open Go.RowKit Er Go.Maps

def Dk.change (D : Dk) (c : Ch) : Dk := { D with nm := chg D.nm c, ch := D.ch ++ [c], calls := wrap64 (D.calls + 1) }

theorem infoCh : (Tryz.prog.info? 91).map (fun i => (i.zero, i.size, i.bytes)) = some (some (.agg #[.string ⟨#[]⟩, .string ⟨#[]⟩, .pointer none]), 3, 40) := by kernel_rfl
theorem chV_cell (c : Ch) : ∀ u ∈ (chV c).toArray, u.oneCell' = true := by
  intro u hu
  obtain ⟨a, b, f⟩ := c
  cases f <;> simp [chV, optPtr] at hu <;> rcases hu with rfl | rfl | rfl <;> rfl

set_option maxRecDepth 100000 in
set_option maxHeartbeats 400000 in
theorem change_any (P : Pm) (d : Nat) (D : Dk) (A F : Mm) (hD : DkM P d D A) (cn cg : Nam) (cf : Option Nat) (fv : Value) (HF : Hid (optPtr cf = fv)) (hl : D.nm.length < 1000000) (hc : D.ch.length ≤ 1000000) (hn : cn.length ≤ 1000000) (hg : cg.length ≤ 1000000) (w : World) (hH : Hp w P (A ++ F)) :
    Calls Tryz.prog 48 #[ptr d, .agg #[str cn, str cg, fv]] w fun e w' => e = .returned (.tuple #[]) ∧ ∃ A', DkM P d (D.change ⟨cn, cg, cf⟩) A' ∧ Hp w' P (A' ++ F) := by
  obtain ⟨nb, no, kb, ko, cv, Ac, Af, rfl, h2, h3, h4, h5, h6⟩ := hD
  obtain ⟨cva, cvc, rfl⟩ := h4.shape
  have hA : Hp (w.alloc (.cells #[str cn, str cg, fv] 91)) P ((nb, no) :: (w.heap.size, .cells #[str cn, str cg, fv] 91 (0, 0)) :: (d, .cells (dkCells D nb kb (.slice cva D.ch.length cvc)) 82 (0, 0)) :: (kb, ko) :: (Ac ++ Af ++ F)) :=
    (hH.alloc _).pick 2 rfl
  have hm1 : (d, Obj.cells (dkCells D nb kb (.slice cva D.ch.length cvc)) 82 (0, 0)) ∈ ((d, Obj.cells (dkCells D nb kb (.slice cva D.ch.length cvc)) 82 (0, 0)) :: (nb, no) :: (kb, ko) :: (Ac ++ Af)) ++ F := by simp
  have c1 : w.cell? ⟨d, 1, none⟩ = some (.map (some nb)) := hH.cell hm1 rfl
  have hdl : d < w.heap.size := hH.lt hm1
  have hne : ¬ d = w.heap.size := by omega
  have HA := Lib.hid hA
  have H2 := Lib.hid h2
  have H4 := Lib.hid h4
  clear hH hA h2 hm1 h4
  have hfo : fv.oneCell' = true := by rw [← HF.out]; cases cf <;> rfl
  go_enter Tryz.func48, Tryz.ntmps48
  go_wp2
  go_region_held3 (fun w' => w'.cell? ⟨d, 1, none⟩ = some (.map (some nb)) ∧ w'.cell? ⟨w.heap.size, 0, none⟩ = some (str cn) ∧ w'.cell? ⟨w.heap.size, 1, none⟩ = some (str cg) ∧ w'.cell? ⟨w.heap.size, 2, none⟩ = some fv)
    (first
      | go_keep
      | exact ⟨d1, b0, b1, b2⟩)
    ((go_at_call 73; with_reducible refine (apply_any P nb no D.nm cn cg cf fv HF _ H2.out hl hn hg _ HA.out.drew).mono ?_; rintro e w2 ⟨rfl, no2, hm2, hH2⟩;
      have dx := @Hp.cell _ _ _ hH2 d (dkCells D nb kb (.slice cva D.ch.length cvc)) 82 (0, 0) (by simp); have d1 : w2.cell? ⟨d, 1, none⟩ = some (.map (some nb)) := dx rfl;
      have bx := @Hp.cell _ _ _ hH2 w.heap.size #[str cn, str cg, fv] 91 (0, 0) (by simp); have b0 : w2.cell? ⟨w.heap.size, 0, none⟩ = some (str cn) := bx rfl; have b1 : w2.cell? ⟨w.heap.size, 1, none⟩ = some (str cg) := bx rfl; have b2 : w2.cell? ⟨w.heap.size, 2, none⟩ = some fv := bx rfl))
  have d3 : w2.cell? ⟨d, 3, none⟩ = some (.slice cva D.ch.length cvc) := (@Hp.cell _ _ _ hH2 d (dkCells D nb kb (.slice cva D.ch.length cvc)) 82 (0, 0) (by simp)) rfl
  have HQ : Hid (Hp w2 P (Ac ++ ([(nb, no2), (w.heap.size, .cells #[str cn, str cg, fv] 91 (0, 0)), (d, .cells (dkCells D nb kb (.slice cva D.ch.length cvc)) 82 (0, 0)), (kb, ko)] ++ (Af ++ F)))) :=
    Hp.mid (by simpa [List.append_assoc] using hH2)
  have hchs : ∀ u ∈ (#[str cn, str cg, fv] : Array Value), u.oneCell' = true := by intro u hu; simp at hu; rcases hu with rfl | rfl | rfl <;> first | rfl | exact hfo
  have hd2 : d < w2.heap.size := hH2.lt (x := (d, .cells (dkCells D nb kb (.slice cva D.ch.length cvc)) 82 (0, 0))) (by simp)
  have hne2 : ¬ d = w2.heap.size := by omega
  have HM2 := Lib.hid hm2
  have HC := Lib.hid hchs
  clear hH2 hm2 d1 hchs
  go_wp2
  go_region_law (first
    | (refine step_push_hp (w := w2.drew) (by rfl) _ _ _ (by rfl) 91 _ 3 40 Tryz.underlying80 infoCh (by rfl) (by omega) (.slice cva D.ch.length cvc) D.ch.length (D.ch.flatMap chV) (by rfl) HQ.out.drew H4.out #[str cn, str cg, fv] (by rfl) (by rfl) HC.out (by omega) (by omega) ?_
       intro g cap w3 Ac' hr3 hH3
       have dx := @Hp.cell _ _ _ hH3 d (dkCells D nb kb (.slice cva D.ch.length cvc)) 82 (0, 0) (by simp)
       have e3 : w3.cell? ⟨d, 3, none⟩ = some (.slice cva D.ch.length cvc) := dx rfl
       have e7 : w3.cell? ⟨d, 7, none⟩ = some (.int .i64 D.calls) := dx rfl
       have df := @Hp.frozen _ _ _ hH3 d (dkCells D nb kb (.slice cva D.ch.length cvc)) 82 (by simp)
       have f3 := df 3
       have f7 := df 7))
  all_goals
    go_wp2
    go_end0
    refine ⟨rfl, ?_⟩
    have hF := ((((Hp.mid (A := Ac') (B := [(nb, no2), (w.heap.size, .cells #[str cn, str cg, fv] 91 (0, 0)), (d, .cells (dkCells D nb kb (.slice cva D.ch.length cvc)) 82 (0, 0)), (kb, ko)]) hH3).pick 2 rfl).set 3 (.slice (some ⟨g, 0, none⟩) (D.ch.length + 1) cap)).set 7 (.int .i64 (wrap64 (D.calls + 1))))
    refine ⟨_, ⟨nb, no2, kb, ko, .slice (some ⟨g, 0, none⟩) (D.ch.length + 1) cap, Ac', Af, rfl, HM2.out, h3, ?_, h5, h6⟩, ?_⟩
    · have : (D.change ⟨cn, cg, cf⟩).ch.length = D.ch.length + 1 := by simp [Dk.change]
      rw [this]
      have h2 : (D.change ⟨cn, cg, cf⟩).ch.flatMap chV = D.ch.flatMap chV ++ [str cn, str cg, fv] := by simp [Dk.change, List.flatMap_append, chV, HF.out]
      rw [h2]; exact hr3
    · have hG := (Hp.pick (M := _ :: (nb, no2) :: (w.heap.size, _) :: (kb, ko) :: (Ac' ++ (Af ++ F))) hF 2 rfl).tail
      simpa [dkCells, Dk.change, List.append_assoc] using hG

end Go.Proofs.YtncjffkpkmjgkaaGreatDoor.Sg

/-! De -/
namespace Go.Proofs.YtncjffkpkmjgkaaGreatDoor.Sg
open Go.RowKit Er Go.Maps

section
variable {w : World} {P : Pm} {M : Mm} {b r : Nat} {o : Obj} {m : Kv} {D : DataW Value} {left : Lit → Bool} {cnt : Nat} {ops : Array Oper} {rest : List Oper} {op : Oper} {a : Act} {Q : Exit → Act → World → Prop}

theorem Hp.notIn (h : Hp w P M) {k : Nat} (hk : w.heap.size ≤ k) : k ∉ ids M ∧ P.m k = .none := ⟨fun hm => by have := h.ids_lt k hm; omega, h.outside hk⟩

theorem wpList_range_hp (hg : op.guard = none) (mo : Operand) (t k e : TypeId) (hop : op.op = Op.range t mo) (K : Keyed Tryz.prog k) (ht : Tryz.prog.underlying t = some (.map k e)) (hm : a.eval mo = .map (some b)) (h : Hp w P M) (hb : (b, o) ∈ M) (ho : MapO k o m)
    (hK : ∀ D w', MapD D m → w'.ranges Tryz.prog k Rv b w.heap.size m.length D (Maps.has D) (Maps.size D) → Hp w' P M → w.heap.size ∉ ids M → P.m w.heap.size = .none → wpList Tryz.prog ops Q rest (a.put op.dst (.pointer (some ⟨w.heap.size, 0, none⟩))) w') :
    wpList Tryz.prog ops Q (op :: rest) a w := by
  obtain ⟨D, hown, hD⟩ := ho.owns (h.own _ hb)
  refine wpList_range_own w hg mo t hop k e K ht Rv b m.length D hm hown fun w' h1 h2 h3 => ?_
  have hn := Hp.notIn h (Nat.le_refl w.heap.size)
  exact hK D w' hD h1 (h.upd (N := []) ⟨h2.os, h2.tape, h2.output, h2.size, fun k hk _ => h2.block k hk (by simp)⟩ (by simp)) hn.1 hn.2

theorem wpList_next_hp {α : Type} (hg : op.guard = none) (it : Operand) (hop : op.op = Op.next it false) (k : TypeId) (K : Keyed Tryz.prog k) (mkK : α → Value) (invK : ∀ key kl, keyOf Tryz.prog k key = some kl → ∃ x, key = mkK x)
    (hit : a.eval it = .pointer (some ⟨r, 0, none⟩)) (hr : w.ranges Tryz.prog k Rv b r m.length D left cnt) (hD : MapD D m) (h : Hp w P M) (h1 : r ∉ ids M) (h2 : P.m r = .none)
    (hDone : (∀ kl, left kl = false) → wpList Tryz.prog ops Q rest (a.put op.dst (.tuple #[.bool false])) w)
    (hMore : ∀ (x : α) (v : Value) (kl : Lit) (w' : World) (cnt' : Nat), keyOf Tryz.prog k (mkK x) = some kl → left kl = true → kfind m kl = some v → w'.ranges Tryz.prog k Rv b r m.length D (fun z => left z && !z.sameKey kl) cnt' → cnt' < cnt → Hp w' P M →
      (Instr.entry (.pointer (some ⟨r, 0, none⟩))).run Tryz.prog w' = .ok (.tuple #[mkK x, v]) w' → wpList Tryz.prog ops Q rest (a.put op.dst (.tuple #[.bool true, mkK x, v])) w') :
    wpList Tryz.prog ops Q (op :: rest) a w := by
  refine wpList_next_ranges w hg it hop k K Rv mkK (id : Value → Value) invK (fun v _ _ => ⟨v, rfl⟩) b r m.length D left cnt hit hr (fun _ hl => hDone hl) ?_
  intro x c kl y w' cnt' hk hl hv hat hrg hlt hgr _ hen
  have hy : y.1 = .held c := by simp [Rv] at hv; rw [← hv]
  have hf : kfind m kl = some c := by
    have hs := kfind_has hD kl
    rw [has_true_of_atKey (y := y.1) hat] at hs
    cases hf : kfind m kl with
    | none => rw [hf] at hs; cases hs
    | some u =>
      have := hat .nil
      rw [hD.at_, hf, hy] at this
      simp only [Option.map_some, Option.getD_some] at this
      cases this; rfl
  exact hMore x c kl w' cnt' hk hl hf hrg hlt (h.upd (N := [r]) ⟨hgr.os, hgr.tape, hgr.output, hgr.size, fun k hk hn => hgr.block k hk (fun e => hn (by cases e; simp))⟩ (fun k hk => .inl (by simp at hk; subst hk; exact ⟨h1, h2⟩))) hen
end

theorem invStr (key : Value) (kl : Lit) (h : keyOf Tryz.prog 9 key = some kl) : ∃ x : ByteArray, key = .string x := by
  have hu := Tryz.underlying9
  cases key <;> simp [keyOf, hu, mapKey] at h
  exact ⟨_, rfl⟩
theorem keyStr (x : ByteArray) (kl : Lit) (h : keyOf Tryz.prog 9 (.string x) = some kl) : kl = .string x.data.toList := by
  have hu := Tryz.underlying9
  simp [keyOf, hu, mapKey] at h
  exact h.2.symm

/-- Sums over what is no longer to come. -/
def doneSum (f : Nam × Nat → Nat) (left : Lit → Bool) (m : List (Nam × Nat)) : Nat := ((m.filter (fun p => !left (.string p.1))).map f).sum
def allSum (f : Nam × Nat → Nat) (m : List (Nam × Nat)) : Nat := (m.map f).sum
theorem doneSum_start (f : Nam × Nat → Nat) (left : Lit → Bool) (m : List (Nam × Nat)) (h : ∀ p ∈ m, left (.string p.1) = true) : doneSum f left m = 0 := by
  unfold doneSum
  rw [List.filter_eq_nil_iff.2 (fun p hp => by simp [h p hp])]; rfl
theorem doneSum_end (f : Nam × Nat → Nat) (left : Lit → Bool) (m : List (Nam × Nat)) (h : ∀ kl, left kl = false) : doneSum f left m = allSum f m := by
  unfold doneSum allSum
  rw [List.filter_eq_self.2 (fun p _ => by simp [h])]
theorem doneSum_le (f : Nam × Nat → Nat) (left : Lit → Bool) (m : List (Nam × Nat)) : doneSum f left m ≤ allSum f m := by
  unfold doneSum allSum
  induction m with
  | nil => simp
  | cons p l ih =>
    rw [List.filter_cons]
    split <;> simp only [List.map_cons, List.sum_cons] <;> omega
theorem doneSum_cons (f : Nam × Nat → Nat) (left : Lit → Bool) (p : Nam × Nat) (l : List (Nam × Nat)) : doneSum f left (p :: l) = (if left (.string p.1) then 0 else f p) + doneSum f left l := by
  unfold doneSum
  rw [List.filter_cons]
  cases left (.string p.1) <;> simp
theorem doneSum_congr (f : Nam × Nat → Nat) (left left' : Lit → Bool) (l : List (Nam × Nat)) (h : ∀ q ∈ l, left (.string q.1) = left' (.string q.1)) : doneSum f left l = doneSum f left' l := by
  unfold doneSum
  rw [List.filter_congr (fun q hq => by rw [h q hq])]
theorem doneSum_step (f : Nam × Nat → Nat) (left : Lit → Bool) (s : Nam) (b : Nat) : ∀ (m : List (Nam × Nat)), (kvOf m).Pairwise (fun p q => p.1 ≠ q.1) → nfind m s = some b → left (.string s) = true →
    doneSum f (fun z => left z && !z.sameKey (.string s)) m = doneSum f left m + f (s, b)
  | [], _, h, _ => by simp [nfind] at h
  | p :: l, hn, h, hl => by
    obtain ⟨h1, h2⟩ := List.pairwise_cons.1 hn
    rw [doneSum_cons, doneSum_cons]
    by_cases e : p.1 = s
    · obtain ⟨p1, p2⟩ := p
      dsimp only at e
      subst e
      have hb : p2 = b := by simpa [nfind] using h
      subst hb
      have hc : doneSum f (fun z => left z && !z.sameKey (.string p1)) l = doneSum f left l := doneSum_congr f _ _ l (fun q hq => by
        have hne := h1 (.string q.1, ptr q.2) (List.mem_map.2 ⟨q, hq, rfl⟩)
        dsimp only at hne ⊢
        rw [sameKey_ne (Ne.symm hne)]; simp)
      rw [hc]
      simp [hl, Lit.sameKey]
      omega
    · have ih := doneSum_step f left s b l h2 (by simpa [nfind, List.find?_cons_of_neg, e] using h) hl
      rw [ih]
      have hk : (Lit.string p.1).sameKey (.string s) = false := sameKey_ne (fun e' => e (by cases e'; rfl))
      simp only [hk, Bool.not_false, Bool.and_true]
      omega

end Go.Proofs.YtncjffkpkmjgkaaGreatDoor.Sg

/-! Df -/
namespace Go.Proofs.YtncjffkpkmjgkaaGreatDoor.Sg
open Go.RowKit Er Go.Maps

def ffind (l : List Fl) (b : Nat) : Option Fl := l.find? (fun f => f.blk == b)
def flen (l : List Fl) (p : Nam × Nat) : Nat := ((ffind l p.2).map (·.b.length)).getD 0
def fcells (f : Fl) (v : Value) : Array Value := #[.int .i64 f.id, v, .int .i64 f.s]

theorem FlsM.at_ {P : Pm} : ∀ {l : List Fl} {A : Mm}, FlsM P l A → ∀ {f : Fl}, f ∈ l → ∃ v, (f.blk, Obj.cells (fcells f v) 89 (0, 0)) ∈ A ∧ Pers P (fun w => SlB w v f.b)
  | [], _, _, _, hf => by simp at hf
  | g :: l, _, ⟨v, A', h1, h2, h3⟩, f, hf => by
    rcases List.mem_cons.1 hf with rfl | hf
    · exact ⟨v, by rw [h1]; exact List.mem_cons_self .., h2⟩
    · obtain ⟨u, hu, hp⟩ := FlsM.at_ h3 hf
      exact ⟨u, by rw [h1]; exact List.mem_cons_of_mem _ hu, hp⟩
theorem Hp.fcell {w : World} {P : Pm} {M : Mm} (h : Hp w P M) {f : Fl} {v : Value} (hm : (f.blk, Obj.cells (fcells f v) 89 (0, 0)) ∈ M) :
    w.cell? ⟨f.blk, 0, none⟩ = some (.int .i64 f.id) ∧ w.cell? ⟨f.blk, 1, none⟩ = some v ∧ w.cell? ⟨f.blk, 2, none⟩ = some (.int .i64 f.s) ∧ ∀ i, w.frozen? ⟨f.blk, i, none⟩ = false :=
  ⟨h.cell hm rfl, h.cell hm rfl, h.cell hm rfl, h.frozen hm⟩
theorem ffind_mem {l : List Fl} {b : Nat} {f : Fl} (h : ffind l b = some f) : f ∈ l ∧ f.blk = b := by
  refine ⟨List.mem_of_find?_eq_some h, ?_⟩
  have := List.find?_some h
  simpa using this

structure DkW (D : Dk) : Prop where
  nm : ∀ p, p ∈ D.nm → ∃ f, ffind D.fl p.2 = some f
  kp : ∀ p, p ∈ D.kp → ∃ f, ffind D.fl p.2 = some f
  ch : ∀ c, c ∈ D.ch → ∀ b, c.f = some b → ∃ f, ffind D.fl b = some f
def Dk.used (D : Dk) : Nat := allSum (flen D.fl) D.nm

theorem nfind_mem {m : List (Nam × Nat)} {s : Nam} {b : Nat} (h : nfind m s = some b) : (s, b) ∈ m := by
  unfold nfind at h
  obtain ⟨p, hp, rfl⟩ := Option.map_eq_some_iff.1 h
  have h1 := List.find?_some hp
  have h2 := List.mem_of_find?_eq_some hp
  have : p.1 = s := by simpa using h1
  subst this
  exact h2

theorem nfind_of_mem {m : List (Nam × Nat)} {p : Nam × Nat} (h : p ∈ m) : ∃ b, nfind m p.1 = some b := by
  unfold nfind
  cases hf : m.find? (fun q => q.1 == p.1) with
  | none => have := List.find?_eq_none.1 hf p h; simp at this
  | some q => exact ⟨q.2, rfl⟩

/-- A loop over the names. -/
def UsedRel (D : Dk) (r nb : Nat) (Dm : DataW Value) (P : Pm) (M : Mm) (cnt : Nat) (n : Value) (wr : World) : Prop :=
  ∃ left, wr.ranges Tryz.prog 9 Rv nb r (kvOf D.nm).length Dm left cnt ∧ n = .int .i64 (doneSum (flen D.fl) left D.nm) ∧ Hp wr P M

set_option maxRecDepth 100000 in
set_option maxHeartbeats 400000 in
theorem used_any (P : Pm) (d : Nat) (D : Dk) (A F : Mm) (hD : DkM P d D A) (hw : DkW D) (hu : D.used ≤ 1099511627776) (w : World) (hH : Hp w P (A ++ F)) :
    Calls Tryz.prog 50 #[ptr d] w fun e w' => e = .returned (.int .i64 D.used) ∧ Hp w' P (A ++ F) := by
  obtain ⟨nb, no, kb, ko, cv, Ac, Af, rfl, h2, h3, h4, h5, h6⟩ := hD
  have hm1 : (d, Obj.cells (dkCells D nb kb cv) 82 (0, 0)) ∈ ((d, Obj.cells (dkCells D nb kb cv) 82 (0, 0)) :: (nb, no) :: (kb, ko) :: (Ac ++ Af)) ++ F := by simp
  have c1 : w.cell? ⟨d, 1, none⟩ = some (.map (some nb)) := hH.cell hm1 rfl
  have HH := Lib.hid hH
  have hmn : Hid ((nb, no) ∈ ((d, Obj.cells (dkCells D nb kb cv) 82 (0, 0)) :: (nb, no) :: (kb, ko) :: (Ac ++ Af)) ++ F) := by simp [Hid]
  have H2 := Lib.hid h2
  have H5 := Lib.hid h5
  have HW := Lib.hid hw
  clear hH hm1 h2 h5 hw
  go_enter Tryz.func50, Tryz.ntmps50
  go_wp2_with (at_range; refine wpList_range_hp rfl _ 79 9 86 rfl strK Tryz.underlying79 rfl HH.out hmn.out H2.out ?_; intro Dm w0 hDm hrg hH0 hr1 hr2)
  have HDm := Lib.hid hDm
  have HR : Hid (UsedRel D w.heap.size nb Dm P _ (Maps.size Dm) (.int .i64 0) w0) := ⟨_, hrg, by
    rw [doneSum_start]
    · rfl
    · intro p hp
      rw [kfind_has hDm, kfind_kv]
      obtain ⟨b, hb⟩ := nfind_of_mem hp
      rw [hb]; rfl, hH0⟩
  have HR1 := Lib.hid hr1
  have HR2 := Lib.hid hr2
  clear hDm hrg hH0 hr1 hr2
  go_frame
  go_loopg [3] (Maps.size Dm) (fun r n wr => UsedRel D w.heap.size nb Dm P _ r n wr)
  case atStart => exact HR.out
  case round =>
    obtain ⟨left, hrg, rfl, hHr⟩ := hrel
    go_wp2_with (at_next; refine wpList_next_hp (α := ByteArray) rfl _ rfl 9 strK Value.string invStr rfl hrg HDm.out hHr HR1.out HR2.out ?_ ?_)
    · intro hl0
      have HS : Hid (doneSum (flen D.fl) left D.nm = D.used) := doneSum_end _ _ _ hl0
      clear hl0
      go_wp2
      go_ret
      exact ⟨by rw [HS.out]; rfl, hHr⟩
    · intro x v kl w1 cnt1 hk hl hf hrg1 hlt hH1 hen
      obtain rfl := keyStr x kl hk
      rw [kfind_kv] at hf
      obtain ⟨b, hb, rfl⟩ := Option.map_eq_some_iff.1 hf
      obtain ⟨f, hff⟩ := HW.out.nm _ (nfind_mem hb)
      obtain ⟨hfm, rfl⟩ := ffind_mem hff
      obtain ⟨fv, hfc, hfs⟩ := H5.out.at_ hfm
      obtain ⟨fa, fc, rfl, -⟩ := (hH1.use hfs).shape
      have c2 : w1.cell? ⟨f.blk, 1, none⟩ = some (.slice fa f.b.length fc) := (hH1.fcell (f := f) (v := .slice fa f.b.length fc) (by simp [hfc])).2.1
      have hstep := doneSum_step (flen D.fl) left _ f.blk D.nm HDm.out.nodup hb hl
      have hfl : flen D.fl (x.data.toList, f.blk) = f.b.length := by unfold flen; rw [hff]; rfl
      rw [hfl] at hstep
      have hle := doneSum_le (flen D.fl) (fun z => left z && !z.sameKey (.string x.data.toList)) D.nm
      have hle2 : doneSum (flen D.fl) left D.nm + f.b.length ≤ 1099511627776 := by rw [← hstep]; exact Nat.le_trans hle hu
      have HST := Lib.hid hstep
      have HRG := Lib.hid hrg1
      have HH1 := Lib.hid hH1
      clear hstep hle hfl hk hl hf hb hff hrg hHr hrg1 hH1 hfc hfs hfm
      go_wp2
      go_roundg cnt1
      case measure => omega
      case rel => exact ⟨_, HRG.out, by rw [HST.out]; go_num, by simpa [List.append_assoc] using HH1.out⟩

end Go.Proofs.YtncjffkpkmjgkaaGreatDoor.Sg

/-! Dg -/
namespace Go.Proofs.YtncjffkpkmjgkaaGreatDoor.Sg
open Go.RowKit Er Go.Maps

/-- The errors of all statements of disks. -/
structure Ctx (S : List Nat) (E : Nat → Addr) (B : Nat) (P : Pm) : Prop where
  all : ∀ i, i < 10 ∨ i = 14 → i ∈ S
  errs : Pers P (fun w => Errs S w E B)
  tab : Pers P (fun w => Lib.TabIs Tryz.prog w "internal/strconv.uint64pow10" .u64 Lib.pow10Tab)
theorem Ctx.sub {S : List Nat} {E : Nat → Addr} {B : Nat} {P P' : Pm} (h : Ctx S E B P) (s : Sub P P') : Ctx S E B P' := ⟨h.all, h.errs.sub s, h.tab.sub s⟩

def Dk.find (D : Dk) (s : Nam) : Except Nat Nat := if D.ok then D.beg.file s else .error 110
theorem beg_fl (D : Dk) : D.beg.fl = D.fl ∧ D.beg.nm = D.nm ∧ D.beg.kp = D.kp ∧ D.beg.ch = D.ch ∧ D.beg.n = D.n ∧ D.beg.room = D.room ∧ D.beg.calls = D.calls := by
  unfold Dk.beg
  split
  · simp
  split
  · simp
  split <;> simp
theorem DkW.beg {D : Dk} (h : DkW D) : DkW D.beg := by
  obtain ⟨h1, h2, h3, h4, -, -, -⟩ := beg_fl D
  exact ⟨by rw [h1, h2]; exact h.nm, by rw [h1, h3]; exact h.kp, by rw [h1, h4]; exact h.ch⟩

section
variable {S : List Nat} {E : Nat → Addr} {B : Nat} {P : Pm} {d : Nat} {D : Dk} {A F : Mm} {w : World}

theorem begin_ok (C : Ctx S E B P) (hD : DkM P d D A) (hH : Hp w P (A ++ F)) (h : D.ok = true) :
    Calls Tryz.prog 46 #[ptr d] w fun e w' => e = .returned .nilIface ∧ ∃ A', DkM P d D.beg A' ∧ Hp w' P (A' ++ F) := by
  refine (begin_any (C.all 9 (by decide)) P C.errs d D A F hD w hH).mono ?_
  rintro e w' ⟨rfl, h2⟩
  exact ⟨by simp [Dk.bc, h, ev], h2⟩
theorem begin_bad (C : Ctx S E B P) (hD : DkM P d D A) (hH : Hp w P (A ++ F)) (h : D.ok = false) :
    Calls Tryz.prog 46 #[ptr d] w fun e w' => e = .returned (.iface 289 (.pointer (some (E 9)))) ∧ ∃ A', DkM P d D.beg A' ∧ Hp w' P (A' ++ F) := by
  refine (begin_any (C.all 9 (by decide)) P C.errs d D A F hD w hH).mono ?_
  rintro e w' ⟨rfl, h2⟩
  exact ⟨by simp [Dk.bc, h, ev], h2⟩
theorem file_ok (C : Ctx S E B P) (hD : DkM P d D A) (hH : Hp w P (A ++ F)) (s : Nam) (hs : s.length ≤ 1099511627776) (b : Nat) (h : D.file s = .ok b) :
    Calls Tryz.prog 100 #[ptr d, str s] w fun e w' => e = .returned (.tuple #[.pointer (some ⟨b, 0, none⟩), .nilIface]) ∧ ∃ n, w' = w.drewN n := by
  refine (file_any (C.all 6 (by decide)) (C.all 9 (by decide)) P C.errs d D A F hD s hs w hH).mono ?_
  rintro e w' ⟨rfl, h2⟩
  exact ⟨by rw [h]; rfl, h2⟩
theorem file_bad (C : Ctx S E B P) (hD : DkM P d D A) (hH : Hp w P (A ++ F)) (s : Nam) (hs : s.length ≤ 1099511627776) (c : Nat) (h : D.file s = .error c) :
    ∃ a, ev E c = .iface 289 a ∧ Calls Tryz.prog 100 #[ptr d, str s] w fun e w' => e = .returned (.tuple #[.pointer none, .iface 289 a]) ∧ ∃ n, w' = w.drewN n := by
  have hc : ∃ i, c = 101 + i := by
    unfold Dk.file at h
    split at h
    · cases h; exact ⟨9, rfl⟩
    · split at h <;> cases h; exact ⟨6, rfl⟩
  obtain ⟨i, rfl⟩ := hc
  refine ⟨_, ev_some E i, (file_any (C.all 6 (by decide)) (C.all 9 (by decide)) P C.errs d D A F hD s hs w hH).mono ?_⟩
  rintro e w' ⟨rfl, h2⟩
  exact ⟨by rw [h]; show Ending.returned (.tuple #[.pointer none, ev E (101 + i)]) = _; rw [ev_some], h2⟩

set_option maxRecDepth 100000 in
set_option maxHeartbeats 400000 in
theorem find_ok (C : Ctx S E B P) (hD : DkM P d D A) (hH : Hp w P (A ++ F)) (s : Nam) (hs : s.length ≤ 1099511627776) (b : Nat) (h : D.find s = .ok b) :
    Calls Tryz.prog 49 #[ptr d, str s] w fun e w' => e = .returned (.tuple #[.pointer (some ⟨b, 0, none⟩), .nilIface]) ∧ ∃ A', DkM P d D.beg A' ∧ Hp w' P (A' ++ F) := by
  have hok : D.ok = true := by
    cases hc : D.ok with
    | true => rfl
    | false => simp [Dk.find, hc] at h
  have hb : D.beg.file s = .ok b := by simpa [Dk.find, hok] using h
  have H1 := Lib.hid hok
  have H2 := Lib.hid hb
  clear h hok hb
  go_enter Tryz.func49, Tryz.ntmps49
  go_wp2_with fail
  refine (begin_ok C hD hH H1.out).mono ?_
  rintro e w1 ⟨rfl, A1, hD1, hH1⟩
  go_wp2_with fail
  refine (file_ok C hD1 hH1 s hs b H2.out).mono ?_
  rintro e w2 ⟨rfl, n, rfl⟩
  go_wp2
  go_ret2
  exact ⟨rfl, A1, hD1, hH1.drewN n⟩

set_option maxRecDepth 100000 in
set_option maxHeartbeats 400000 in
theorem find_bad (C : Ctx S E B P) (hD : DkM P d D A) (hH : Hp w P (A ++ F)) (s : Nam) (hs : s.length ≤ 1099511627776) (c : Nat) (h : D.find s = .error c) :
    ∃ a, ev E c = .iface 289 a ∧ Calls Tryz.prog 49 #[ptr d, str s] w fun e w' => e = .returned (.tuple #[.pointer none, .iface 289 a]) ∧ ∃ A', DkM P d D.beg A' ∧ Hp w' P (A' ++ F) := by
  by_cases hok : D.ok = true
  · have hb : D.beg.file s = .error c := by simpa [Dk.find, hok] using h
    have hc : ∃ a, ev E c = .iface 289 a := by
      unfold Dk.file at hb
      split at hb
      · cases hb; exact ⟨_, ev_some E 9⟩
      · split at hb <;> cases hb; exact ⟨_, ev_some E 6⟩
    obtain ⟨a, ha⟩ := hc
    refine ⟨a, ha, ?_⟩
    have H1 := Lib.hid hok
    have H2 := Lib.hid hb
    have H3 := Lib.hid ha
    clear h hok hb ha
    go_enter Tryz.func49, Tryz.ntmps49
    go_wp2_with fail
    refine (begin_ok C hD hH H1.out).mono ?_
    rintro e w1 ⟨rfl, A1, hD1, hH1⟩
    go_wp2_with fail
    obtain ⟨a', ha', hf⟩ := file_bad C hD1 hH1 s hs c H2.out
    obtain rfl : a = a' := by have := H3.out.symm.trans ha'; cases this; rfl
    have H4 := Lib.hid ha'
    clear ha'
    refine hf.mono ?_
    rintro e w2 ⟨rfl, n, rfl⟩
    go_wp2
    go_ret2
    exact ⟨rfl, A1, hD1, hH1.drewN n⟩
  · have hok' : D.ok = false := by simpa using hok
    obtain rfl : c = 110 := by simp [Dk.find, hok'] at h; exact h.symm
    refine ⟨_, ev_some E 9, ?_⟩
    have H1 := Lib.hid hok'
    clear h hok hok'
    go_enter Tryz.func49, Tryz.ntmps49
    go_wp2_with fail
    refine (begin_bad C hD hH H1.out).mono ?_
    rintro e w1 ⟨rfl, A1, hD1, hH1⟩
    go_wp2
    go_ret2
    exact ⟨rfl, A1, hD1, hH1⟩
end

end Go.Proofs.YtncjffkpkmjgkaaGreatDoor.Sg

/-! Dh -/
namespace Go.Proofs.YtncjffkpkmjgkaaGreatDoor.Sg
open Go.RowKit Er Go.Maps

def fset (l : List Fl) (g : Fl) : List Fl := l.map (fun f => if f.blk = g.blk then g else f)
theorem FlsM.blks {P : Pm} : ∀ {l : List Fl} {A : Mm}, FlsM P l A → ids A = l.map (·.blk)
  | [], _, h => by cases (show _ = [] from h); rfl
  | _ :: _, _, ⟨_, _, h1, _, h3⟩ => by rw [h1]; unfold ids; rw [List.map_cons, List.map_cons, ← FlsM.blks h3]; rfl
theorem fset_at (l1 l2 : List Fl) (f g : Fl) (hb : g.blk = f.blk) (hn : ((l1 ++ f :: l2).map (·.blk)).Nodup) : fset (l1 ++ f :: l2) g = l1 ++ g :: l2 := by
  rw [List.map_append, List.map_cons, List.nodup_append] at hn
  obtain ⟨-, h2, h3⟩ := hn
  rw [List.nodup_cons] at h2
  unfold fset
  rw [List.map_append, List.map_cons, if_pos hb.symm]
  have e1 : l1.map (fun f => if f.blk = g.blk then g else f) = l1 := by
    conv => rhs; rw [← List.map_id l1]
    refine List.map_congr_left (fun x hx => ?_)
    rw [if_neg]; rfl
    intro e
    exact h3 x.blk (List.mem_map.2 ⟨x, hx, rfl⟩) f.blk (List.mem_cons_self ..) (by rw [e, hb])
  have e2 : l2.map (fun f => if f.blk = g.blk then g else f) = l2 := by
    conv => rhs; rw [← List.map_id l2]
    refine List.map_congr_left (fun x hx => ?_)
    rw [if_neg]; rfl
    intro e
    exact h2.1 (List.mem_map.2 ⟨x, hx, by rw [e, hb]⟩)
  rw [e1, e2]

/-- A disk with another file of the same block, and another count of calls. -/
def Dk.withF (D : Dk) (g : Fl) (c : Int) : Dk := { D with fl := fset D.fl g, calls := c }

theorem DkM.file {P : Pm} {d : Nat} {D : Dk} {A : Mm} (hD : DkM P d D A) (hn : (ids A).Nodup) {b : Nat} {f : Fl} (hf : ffind D.fl b = some f) :
    ∃ nb kb cv v A0, Pers P (fun w => SlB w v f.b) ∧ A.Perm ((d, Obj.cells (dkCells D nb kb cv) 82 (0, 0)) :: (f.blk, Obj.cells (fcells f v) 89 (0, 0)) :: A0) ∧
      ∀ (P' : Pm) (g : Fl) (v' : Value) (c' : Int), Sub P P' → g.blk = f.blk → (g.id = f.id ∧ (f.s ≤ f.b.length → g.s ≤ g.b.length)) → Pers P' (fun w => SlB w v' g.b) →
        ∃ A', DkM P' d (D.withF g c') A' ∧ ((d, Obj.cells (dkCells (D.withF g c') nb kb cv) 82 (0, 0)) :: (f.blk, Obj.cells (fcells g v') 89 (0, 0)) :: A0).Perm A' := by
  obtain ⟨nb, no, kb, ko, cv, Ac, Af, rfl, h2, h3, h4, h5, h6⟩ := hD
  obtain ⟨hm, -⟩ := ffind_mem hf
  obtain ⟨l1, l2, hl⟩ := List.append_of_mem hm
  have hn2 : ((l1 ++ f :: l2).map (·.blk)).Nodup := by
    rw [← hl, ← h5.blks]
    unfold ids at hn ⊢
    simp only [List.map_cons, List.map_append, List.nodup_cons, List.nodup_append] at hn
    exact hn.2.2.2.2.1
  rw [hl] at h5
  obtain ⟨A1, A2, rfl, h7, v, A3, rfl, h8, h9⟩ := h5.app
  refine ⟨nb, kb, cv, v, (nb, no) :: (kb, ko) :: (Ac ++ (A1 ++ A3)), h8, ?_, fun P' g v' c' hs hb hgf hv => ?_⟩
  · refine List.Perm.cons _ ?_
    have hp : ((nb, no) :: (kb, ko) :: (Ac ++ (A1 ++ (f.blk, Obj.cells (fcells f v) 89 (0, 0)) :: A3))) = ([(nb, no), (kb, ko)] ++ Ac ++ A1) ++ (f.blk, Obj.cells (fcells f v) 89 (0, 0)) :: A3 := by simp
    show List.Perm ((nb, no) :: (kb, ko) :: (Ac ++ (A1 ++ (f.blk, Obj.cells (fcells f v) 89 (0, 0)) :: A3))) _
    rw [hp]
    refine List.perm_middle.trans (List.Perm.cons _ ?_)
    simp
  · refine ⟨(d, Obj.cells (dkCells (D.withF g c') nb kb cv) 82 (0, 0)) :: (nb, no) :: (kb, ko) :: (Ac ++ (A1 ++ (g.blk, Obj.cells (fcells g v') 89 (0, 0)) :: A3)), ⟨nb, no, kb, ko, cv, Ac, A1 ++ (g.blk, Obj.cells (fcells g v') 89 (0, 0)) :: A3, rfl, h2, h3, h4, ?_, h6.1, ?_⟩, ?_⟩
    · show FlsM P' (fset D.fl g) _
      rw [hl, fset_at l1 l2 f g hb hn2]
      exact (h7.sub hs).join ⟨v', A3, rfl, hv, h9.sub hs⟩
    · intro x hx
      obtain ⟨y, hy, hxy⟩ := List.mem_map.1 (show x ∈ D.fl.map (fun f => if f.blk = g.blk then g else f) from hx)
      have h61 := h6.2 f hm
      by_cases e : y.blk = g.blk
      · rw [if_pos e] at hxy
        rw [← hxy, hgf.1]
        exact ⟨h61.1, hgf.2 h61.2⟩
      · rw [if_neg e] at hxy
        rw [← hxy]
        exact h6.2 y hy
    · refine List.Perm.cons _ ?_
      have hp : ((nb, no) :: (kb, ko) :: (Ac ++ (A1 ++ (g.blk, Obj.cells (fcells g v') 89 (0, 0)) :: A3))) = ([(nb, no), (kb, ko)] ++ Ac ++ A1) ++ (g.blk, Obj.cells (fcells g v') 89 (0, 0)) :: A3 := by simp
      rw [hp, ← hb]
      refine List.Perm.trans ?_ List.perm_middle.symm
      refine List.Perm.cons _ ?_
      simp

theorem Hp.nd {w : World} {P : Pm} {A F : Mm} (h : Hp w P (A ++ F)) : (ids A).Nodup := by
  have := h.nodup
  rw [List.map_append] at this
  exact (List.nodup_append.1 this).1

section
variable {S : List Nat} {E : Nat → Addr} {B : Nat} {P : Pm} {d : Nat} {D : Dk} {A F : Mm} {w : World}

set_option maxRecDepth 100000 in
set_option maxHeartbeats 400000 in
theorem len_ok (C : Ctx S E B P) (hD : DkM P d D A) (hH : Hp w P (A ++ F)) (s : Nam) (hs : s.length ≤ 1099511627776) (b : Nat) (h : D.file s = .ok b) (f : Fl) (hf : ffind D.fl b = some f) :
    Calls Tryz.prog 56 #[ptr d, str s] w fun e w' => e = .returned (.tuple #[.int .i64 f.b.length, .nilIface]) ∧ ∃ n, w' = w.drewN n := by
  obtain ⟨nb, kb, cv, v, A0, hv, hp, -⟩ := hD.file hH.nd hf
  obtain ⟨-, rfl⟩ := ffind_mem hf
  obtain ⟨va, vc, rfl, -⟩ := (hH.use hv).shape
  have hH2 : Hp w P (((d, Obj.cells (dkCells D nb kb cv) 82 (0, 0)) :: (f.blk, Obj.cells (fcells f (.slice va f.b.length vc)) 89 (0, 0)) :: A0) ++ F) := hH.perm (hp.append_right F)
  have c1 := (hH2.fcell (f := f) (v := .slice va f.b.length vc) (by simp)).2.1
  clear hH2 hp hf
  go_enter Tryz.func56, Tryz.ntmps56
  go_wp2_with fail
  refine (file_ok C hD hH s hs f.blk h).mono ?_
  rintro e w2 ⟨rfl, n, rfl⟩
  go_wp2
  go_ret2
  exact ⟨rfl, n, rfl⟩

set_option maxRecDepth 100000 in
set_option maxHeartbeats 400000 in
theorem len_bad (C : Ctx S E B P) (hD : DkM P d D A) (hH : Hp w P (A ++ F)) (s : Nam) (hs : s.length ≤ 1099511627776) (c : Nat) (h : D.file s = .error c) :
    ∃ a, ev E c = .iface 289 a ∧ Calls Tryz.prog 56 #[ptr d, str s] w fun e w' => e = .returned (.tuple #[.int .i64 0, .iface 289 a]) ∧ ∃ n, w' = w.drewN n := by
  obtain ⟨a, ha, hf⟩ := file_bad C hD hH s hs c h
  refine ⟨a, ha, ?_⟩
  clear ha h
  go_enter Tryz.func56, Tryz.ntmps56
  go_wp2_with fail
  refine hf.mono ?_
  rintro e w2 ⟨rfl, n, rfl⟩
  go_wp2
  go_ret2
  exact ⟨rfl, n, rfl⟩

/-- What a sync makes of a disk. -/
def Dk.sync (D : Dk) (f : Fl) : Dk := D.beg.withF { f with s := f.b.length } (wrap64 (D.calls + 1))

set_option maxRecDepth 100000 in
set_option maxHeartbeats 400000 in
theorem dsync_ok (C : Ctx S E B P) (hD : DkM P d D A) (hH : Hp w P (A ++ F)) (s : Nam) (hs : s.length ≤ 1099511627776) (b : Nat) (h : D.find s = .ok b) (f : Fl) (hf : ffind D.fl b = some f) :
    Calls Tryz.prog 62 #[ptr d, str s] w fun e w' => e = .returned .nilIface ∧ ∃ A', DkM P d (D.sync f) A' ∧ Hp w' P (A' ++ F) := by
  have hf' : ffind D.beg.fl b = some f := by rw [(beg_fl D).1]; exact hf
  have hcl : D.beg.calls = D.calls := (beg_fl D).2.2.2.2.2.2
  have HF := Lib.hid hf'
  have HC := Lib.hid hcl
  clear hf hf' hcl
  go_enter Tryz.func62, Tryz.ntmps62
  go_wp2_with fail
  refine (find_ok C hD hH s hs b h).mono ?_
  rintro e w1 ⟨rfl, A1, hD1, hH1⟩
  obtain ⟨nb, kb, cv, v, A0, hv, hp, hback⟩ := hD1.file hH1.nd HF.out
  obtain ⟨-, hblk⟩ := ffind_mem HF.out
  subst hblk
  obtain ⟨va, vc, rfl, -⟩ := (hH1.use hv).shape
  have hH2 : Hp w1 P (((d, Obj.cells (dkCells D.beg nb kb cv) 82 (0, 0)) :: (f.blk, Obj.cells (fcells f (.slice va f.b.length vc)) 89 (0, 0)) :: A0) ++ F) := hH1.perm (hp.append_right F)
  obtain ⟨-, c1, c2, cf⟩ := hH2.fcell (f := f) (v := .slice va f.b.length vc) (by simp)
  have dx := @Hp.cell _ _ _ hH2 d (dkCells D.beg nb kb cv) 82 (0, 0) (by simp)
  have d7 : w1.cell? ⟨d, 7, none⟩ = some (.int .i64 D.calls) := by rw [← HC.out]; exact dx rfl
  have f7 := @Hp.frozen _ _ _ hH2 d (dkCells D.beg nb kb cv) 82 (by simp) 7
  have f2 := cf 2
  have hne : ¬ f.blk = d := by
    have := hH2.nodup
    simp at this
    exact fun e => this.1.1 e.symm
  have hne2 : ¬ d = f.blk := fun e => hne e.symm
  have HH := Lib.hid hH2
  have HB := Lib.hid hback
  clear cf hH2 hp hback hH1 hD1
  go_wp2
  go_ret
  refine ⟨rfl, ?_⟩
  obtain ⟨A', h1, h2⟩ := HB.out P { f with s := f.b.length } (.slice va f.b.length vc) (wrap64 (D.calls + 1)) (Sub.refl P) rfl ⟨rfl, fun _ => Nat.le_refl _⟩ hv
  refine ⟨A', h1, ?_⟩
  have hG := (((HH.out.pick 1 rfl).set 2 (.int .i64 (f.b.length : Int))).pick 1 rfl).set 7 (.int .i64 (wrap64 (D.calls + 1)))
  refine Hp.perm (M := _ ++ F) ?_ (h2.append_right F)
  simpa [dkCells, fcells, Dk.withF] using hG
end

end Go.Proofs.YtncjffkpkmjgkaaGreatDoor.Sg

/-! Di -/
namespace Go.Proofs.YtncjffkpkmjgkaaGreatDoor.Sg
open Go.RowKit Er Go.Maps

theorem SlB.cut {w : World} {a : Option Addr} {n c : Nat} {xs : List Nat} (h : SlB w (.slice a n c) xs) (lo m : Nat) (hm : lo + m ≤ xs.length) :
    SlB w (.slice (if c = lo then a else a.map (·.add (lo * 1))) m (c - lo)) ((xs.drop lo).take m) := by
  have hl : ((xs.drop lo).take m).length = m := by rw [List.length_take, List.length_drop]; omega
  rcases h with ⟨hv, rfl⟩ | ⟨g, off, cap, hv, hc, hg, h⟩ | ⟨b, cap, hv, rfl⟩
  case inr.inr =>
    cases hv
    have h0 : lo = 0 := by simp at hm; omega
    have h1 : m = 0 := by simp at hm; omega
    subst h0 h1
    refine Or.inr (Or.inr ?_)
    by_cases e : c = 0
    · rw [if_pos e]; exact ⟨b, _, rfl, by simp⟩
    · rw [if_neg e]; exact ⟨_, _, rfl, by simp⟩
  · cases hv
    have h0 : lo = 0 := by simp at hm; omega
    have h1 : m = 0 := by simp at hm; omega
    subst h0 h1
    exact Or.inl ⟨by simp, by simp⟩
  · cases hv
    by_cases e : c = lo
    · subst e
      have hm0 : m = 0 := by omega
      subst hm0
      exact Or.inr (Or.inl ⟨g, off, c - c, by simp, by simp, hg, fun i x hx => by simp at hx⟩)
    · rw [if_neg e]
      refine Or.inr (Or.inl ⟨g, off + lo, c - lo, by rw [hl]; simp [addr_add'], by rw [hl]; omega, hg, fun i x hx => ?_⟩)
      rw [List.getElem?_take] at hx
      split at hx
      · rw [List.getElem?_drop] at hx
        have := h _ x hx
        rwa [show off + lo + i = off + (lo + i) from by omega]
      · cases hx

section
variable {S : List Nat} {E : Nat → Addr} {B : Nat} {P : Pm} {d : Nat} {D : Dk} {A F : Mm} {w : World}

set_option maxRecDepth 100000 in
set_option maxHeartbeats 400000 in
theorem dread_ok (C : Ctx S E B P) (hD : DkM P d D A) (hH : Hp w P (A ++ F)) (s : Nam) (hs : s.length ≤ 1099511627776) (b : Nat) (h : D.file s = .ok b) (f : Fl) (hf : ffind D.fl b = some f) (hb : f.b.length ≤ 1099511627776) (off n : Nat) (hn : off + n ≤ f.b.length) :
    Calls Tryz.prog 57 #[ptr d, str s, .int .i64 off, .int .i64 n] w fun e w' => ∃ v P', e = .returned (.tuple #[v, .nilIface]) ∧ Sub P P' ∧ Pers P' (fun w => SlB w v ((f.b.drop off).take n)) ∧ Hp w' P' (A ++ F) := by
  obtain ⟨nb, kb, cv, v, A0, hv, hp, -⟩ := hD.file hH.nd hf
  obtain ⟨-, rfl⟩ := ffind_mem hf
  obtain ⟨va, vc, rfl, hvc⟩ := (hH.use hv).shape
  have hH2 : Hp w P (((d, Obj.cells (dkCells D nb kb cv) 82 (0, 0)) :: (f.blk, Obj.cells (fcells f (.slice va f.b.length vc)) 89 (0, 0)) :: A0) ++ F) := hH.perm (hp.append_right F)
  have c1 := (hH2.fcell (f := f) (v := .slice va f.b.length vc) (by simp)).2.1
  have i1 : (n : Int) ≤ (f.b.length : Int) - (off : Int) := by omega
  have i2 : ¬ ((f.b.length : Int) - (off : Int) < (n : Int)) := by omega
  have i3 : (0 : Int) ≤ (off : Int) := by omega
  have i4 : (off : Int) + (n : Int) ≤ (vc : Int) := by omega
  have HV := Lib.hid hv
  clear hH2 hp hf hv
  have hln : Hid (((f.b.drop off).take n).length = n) := by rw [Hid, List.length_take, List.length_drop]; omega
  by_cases e : vc = off
  · have HC : Hid (Pers P (fun w => SlB w (.slice va n 0) ((f.b.drop off).take n))) := fun w' hw' => by
      have := (HV.out w' hw').cut off n hn
      rwa [if_pos e, show vc - off = 0 from by omega] at this
    go_enter Tryz.func57, Tryz.ntmps57
    go_wp2_with fail
    refine (file_ok C hD hH s hs f.blk h).mono ?_
    rintro e w2 ⟨rfl, m, rfl⟩
    go_wp2_with fail
    refine (clone_any (.slice va n 0) _ _ ((hH.drewN m).use HC.out) (by rw [hln.out]; omega)).mono ?_
    rintro e w3 ⟨⟨v, rfl, hown, -⟩, hbel⟩
    have hH3 := (hH.drewN m).below hbel (Nat.le_refl _)
    go_wp2
    go_ret2
    obtain ⟨A', hr, hH4⟩ := Hp.rowNew (hH.drewN m) hH3 hown (Nat.le_refl _)
    obtain ⟨P', hs', hH5, hp5⟩ := Hp.sealBytes hH4 hr
    exact ⟨_, P', rfl, hs', hp5, hH5⟩
  · have HC : Hid (Pers P (fun w => SlB w (.slice (va.map (·.add off)) n (vc - off)) ((f.b.drop off).take n))) := fun w' hw' => by
      have := (HV.out w' hw').cut off n hn
      rwa [if_neg e, Nat.mul_one] at this
    go_enter Tryz.func57, Tryz.ntmps57
    go_wp2_with fail
    refine (file_ok C hD hH s hs f.blk h).mono ?_
    rintro e w2 ⟨rfl, m, rfl⟩
    go_wp2_with fail
    refine (clone_any _ _ _ ((hH.drewN m).use HC.out) (by rw [hln.out]; omega)).mono ?_
    rintro e w3 ⟨⟨v, rfl, hown, -⟩, hbel⟩
    have hH3 := (hH.drewN m).below hbel (Nat.le_refl _)
    go_wp2
    go_ret2
    obtain ⟨A', hr, hH4⟩ := Hp.rowNew (hH.drewN m) hH3 hown (Nat.le_refl _)
    obtain ⟨P', hs', hH5, hp5⟩ := Hp.sealBytes hH4 hr
    exact ⟨_, P', rfl, hs', hp5, hH5⟩
end

end Go.Proofs.YtncjffkpkmjgkaaGreatDoor.Sg

/-! Dj -/
namespace Go.Proofs.YtncjffkpkmjgkaaGreatDoor.Sg
open Go.RowKit Er Go.Maps

set_option maxRecDepth 100000 in
theorem clip_any (a : Option Addr) (n c : Nat) (h : n ≤ c) (hn : n ≤ 1099511627776) (w : World) :
    Calls Tryz.prog 51 #[.slice a n c] w fun e w' => e = .returned (.slice a n n) ∧ w = w' := by
  have ha : Hid (a.map (fun x => x.add 0) = a) := by
    cases a with
    | none => rfl
    | some x => simp [Hid, Addr.add]
  by_cases h0 : n = 0
  · subst h0
    go_enter Tryz.func51, Tryz.ntmps51
    go_wp2_with fail
    go_ret
    exact ⟨rfl, rfl⟩
  · go_enter Tryz.func51, Tryz.ntmps51
    go_wp2_with fail
    go_ret
    exact ⟨by first | rfl | (simp [ha.out]), rfl⟩


/-- append(x, y...) of bytes, x cut to its length, y not empty: new bytes. -/
theorem wpList_append_clip {w : World} {ops : Array Oper} {rest : List Oper} {o : Oper} {a : Act} {Q : Exit → Act → World → Prop} (hgd : o.guard = none) (s x : Operand)
    (ho : o.op = .call { callee := .builtin .append, args := #[s, x], argTypes := #[22, 22] }) (va : Option Addr) (vc : Nat) (xs : List Nat) (hv : SlB w (.slice va xs.length vc) xs) (hs : a.eval s = .slice va xs.length xs.length)
    (y : Value) (ys : List Nat) (hx : a.eval x = y) (hy : SlB w y ys) (h0 : ys ≠ []) (hbd : xs.length + ys.length ≤ 70368744177664)
    (h : ∀ v' w', w'.ownsRow w.heap.size 5 1 v' (xs.length + ys.length) (bcells (xs ++ ys)) → Below w.heap.size w w' → wpList Tryz.prog ops Q rest (a.put o.dst v') w') : wpList Tryz.prog ops Q (o :: rest) a w := by
  obtain ⟨i0, hi, hz0, hz1, hz2⟩ := info_parts infoU8
  have hpos : 0 < ys.length := List.length_pos_iff.2 h0
  rcases hy with ⟨-, h1⟩ | ⟨g, off, cap, rfl, _, _, hc⟩ | ⟨_, _, _, h1⟩
  case inr.inr => exact absurd h1 h0
  · exact absurd h1 h0
  refine wpList_append_grows w hgd s x _ ho 5 i0 (.int .u8 0) 1 1 Tryz.underlying22 hi hz0 hz1 hz2 rfl (by decide) va xs.length xs.length (bcells xs) hs ?_ (by rw [bcells_len]; omega) ?_
    ⟨g, off, none⟩ ys.length cap (bcells ys) hx (by rw [bcells_len]; omega) (slB_news hc) (bcells_cell ys) (by omega) (by unfold maxLen; omega) (by omega) fun v' w' h1 h2 => ?_
  · rintro rfl
    rcases hv with ⟨_, rfl⟩ | ⟨g, off, cap, h, _⟩ | ⟨_, _, h, _⟩
    · simp
    · cases h
    · cases h
  · rintro b rfl
    rcases hv with ⟨h, _⟩ | ⟨g', off', cap', h, _, _, hc'⟩ | ⟨_, _, _, rfl⟩
    · cases h
    · cases h; exact slB_news hc'
    · intro j u hu; simp [bcells] at hu
  · rw [← bcells_app] at h1
    exact h v' w' h1 ⟨h2.os, h2.tape, h2.output, h2.size, fun k hk => h2.block k hk (by simp)⟩

def Dk.app (D : Dk) (f : Fl) (xs : List Nat) : Dk := D.beg.withF { f with b := f.b ++ xs } (wrap64 (D.calls + 1))

section
variable {S : List Nat} {E : Nat → Addr} {B : Nat} {P : Pm} {d : Nat} {D : Dk} {A F : Mm} {w : World}

set_option maxRecDepth 100000 in
set_option maxHeartbeats 400000 in
theorem dappend_ok (C : Ctx S E B P) (hD : DkM P d D A) (hW : DkW D) (hH : Hp w P (A ++ F)) (s : Nam) (hs : s.length ≤ 1099511627776) (b : Nat) (h : D.find s = .ok b) (f : Fl) (hf : ffind D.fl b = some f) (y : Value) (ys : List Nat) (hy : Pers P (fun w => SlB w y ys)) (h0 : ys ≠ [])
    (hr : D.room ≤ 1099511627776) (hroom : D.used + ys.length ≤ D.room) (hfb : f.b.length ≤ 1099511627776) :
    Calls Tryz.prog 12 #[ptr d, str s, y] w fun e w' => e = .returned .nilIface ∧ ∃ P' A', Sub P P' ∧ DkM P' d (D.app f ys) A' ∧ Hp w' P' (A' ++ F) := by
  obtain ⟨ya, yc, rfl, -⟩ := (hH.use hy).shape
  have hf' : ffind D.beg.fl b = some f := by rw [(beg_fl D).1]; exact hf
  have hcl : D.beg.calls = D.calls := (beg_fl D).2.2.2.2.2.2
  have hrm : D.beg.room = D.room := (beg_fl D).2.2.2.2.2.1
  have hus : D.beg.used = D.used := by unfold Dk.used; rw [(beg_fl D).1, (beg_fl D).2.1]
  have HF := Lib.hid hf'
  have HC := Lib.hid hcl
  have HR := Lib.hid hrm
  have HU := Lib.hid hus
  have hw1 : IntKind.i64.wrap ((D.room : Int) - (D.used : Int)) = (D.room : Int) - (D.used : Int) := IntWalk.i64_in _ (by omega)
  have hw2 : decide ((D.room : Int) - (D.used : Int) < (ys.length : Int)) = false := by simp; omega
  have HW1 := Lib.hid hw1
  clear hf hf' hcl hrm hus hw1
  go_enter Tryz.func12, Tryz.ntmps12
  go_wp2_with fail
  refine (find_ok C hD hH s hs b h).mono ?_
  rintro e w1 ⟨rfl, A1, hD1, hH1⟩
  obtain ⟨nb, kb, cv, v, A0, hv, hp, hback⟩ := hD1.file hH1.nd HF.out
  obtain ⟨-, hblk⟩ := ffind_mem HF.out
  subst hblk
  obtain ⟨va, vc, rfl, hvc⟩ := (hH1.use hv).shape
  have hH2 : Hp w1 P (((d, Obj.cells (dkCells D.beg nb kb cv) 82 (0, 0)) :: (f.blk, Obj.cells (fcells f (.slice va f.b.length vc)) 89 (0, 0)) :: A0) ++ F) := hH1.perm (hp.append_right F)
  have d0 : w1.cell? ⟨d, 0, none⟩ = some (.int .i64 D.room) := by rw [← HR.out]; exact (@Hp.cell _ _ _ hH2 d (dkCells D.beg nb kb cv) 82 (0, 0) (by simp)) rfl
  have hw1 := HW1.out
  have HH1 := Lib.hid hH1
  have HP := Lib.hid hp
  have HB := Lib.hid hback
  clear hH2 hp hback hH1
  go_wp2_with fail
  go_region_held3 (fun w' => w'.cell? ⟨d, 0, none⟩ = some (.int .i64 D.room))
    (first
      | go_keep
      | exact d02)
    (first
      | (go_at_call 50
         with_reducible refine (used_any P d D.beg A1 F hD1 hW.beg (by rw [HU.out]; omega) _ HH1.out.drew).mono ?_
         rintro e w2 ⟨rfl, hH2⟩
         rw [HU.out]
         have hH3 : Hp w2 P (((d, Obj.cells (dkCells D.beg nb kb cv) 82 (0, 0)) :: (f.blk, Obj.cells (fcells f (.slice va f.b.length vc)) 89 (0, 0)) :: A0) ++ F) := hH2.perm (HP.out.append_right F)
         have d02 : w2.cell? ⟨d, 0, none⟩ = some (.int .i64 D.room) := by rw [← HR.out]; exact (@Hp.cell _ _ _ hH3 d (dkCells D.beg nb kb cv) 82 (0, 0) (by simp)) rfl))
  clear hw1 hw2
  obtain ⟨-, c1, -, cf⟩ := hH3.fcell (f := f) (v := .slice va f.b.length vc) (by simp)
  go_wp2_with fail
  refine (clip_any va f.b.length vc hvc hfb _).mono ?_
  rintro e w3 ⟨rfl, rfl⟩
  have HY := Lib.hid hy
  have HV := Lib.hid hv
  have hlb : f.b.length + ys.length ≤ 70368744177664 := by omega
  clear hy hv
  go_wp2_with (at_builtin; refine wpList_append_clip rfl _ _ rfl va vc f.b (hH2.use HV.out) rfl _ ys rfl (hH2.use HY.out) h0 hlb ?_)
  intro v3 w4 hown hbel
  have hH4 := hH3.below hbel (Nat.le_refl _)
  obtain ⟨A3, hr3, hH5⟩ := Hp.rowNew hH3 hH4 hown (Nat.le_refl _)
  obtain ⟨P', hs', hH6, hp6⟩ := Hp.sealBytes hH5 hr3
  obtain ⟨v3a, v3c, rfl⟩ := hr3.shape
  obtain ⟨-, e1, -, ef⟩ := hH6.fcell (f := f) (v := .slice va f.b.length vc) (by simp)
  have e7 : w4.cell? ⟨d, 7, none⟩ = some (.int .i64 D.calls) := by rw [← HC.out]; exact (@Hp.cell _ _ _ hH6 d (dkCells D.beg nb kb cv) 82 (0, 0) (by simp)) rfl
  have g7 := @Hp.frozen _ _ _ hH6 d (dkCells D.beg nb kb cv) 82 (by simp) 7
  have g1 := ef 1
  have hne : ¬ f.blk = d := by
    have := hH6.nodup
    simp at this
    exact fun e => this.1.1 e.symm
  have hne2 : ¬ d = f.blk := fun e => hne e.symm
  have HS := Lib.hid hs'
  have H6 := Lib.hid hH6
  have H7 := Lib.hid hp6
  clear hs' hH6 hp6 hr3 hH5 hH4 hown hbel ef cf c1 hH3 hH2 d02
  go_wp2_with fail
  go_ret
  refine ⟨rfl, P', ?_⟩
  obtain ⟨A', h1, h2⟩ := HB.out P' { f with b := f.b ++ ys } (.slice v3a (f.b.length + ys.length) v3c) (wrap64 (D.calls + 1)) HS.out rfl ⟨rfl, fun h => by simp only [List.length_append]; omega⟩ H7.out
  refine ⟨A', HS.out, h1, ?_⟩
  have hG := (((H6.out.pick 1 rfl).set 1 (.slice v3a (f.b.length + ys.length) v3c)).pick 1 rfl).set 7 (.int .i64 (wrap64 (D.calls + 1)))
  refine Hp.perm (M := _ ++ F) ?_ (h2.append_right F)
  simpa [dkCells, fcells, Dk.withF] using hG
end

end Go.Proofs.YtncjffkpkmjgkaaGreatDoor.Sg

/-! Dk -/
namespace Go.Proofs.YtncjffkpkmjgkaaGreatDoor.Sg
open Go.RowKit Er Go.Maps

section
variable {S : List Nat} {E : Nat → Addr} {B : Nat} {P : Pm} {d : Nat} {D : Dk} {A F : Mm} {w : World}

set_option maxRecDepth 100000 in
set_option maxHeartbeats 400000 in
theorem dappend_full (C : Ctx S E B P) (hD : DkM P d D A) (hW : DkW D) (hH : Hp w P (A ++ F)) (s : Nam) (hs : s.length ≤ 1099511627776) (b : Nat) (h : D.find s = .ok b) (ya : Option Addr) (n yc : Nat) (hn : n ≤ 1099511627776)
    (hr : D.room ≤ 1099511627776) (hu : D.used ≤ 1099511627776) (hroom : D.room < D.used + n) :
    Calls Tryz.prog 12 #[ptr d, str s, .slice ya n yc] w fun e w' => e = .returned (.iface 289 (.pointer (some (E 8)))) ∧ ∃ A', DkM P d D.beg A' ∧ Hp w' P (A' ++ F) := by
  have hrm : D.beg.room = D.room := (beg_fl D).2.2.2.2.2.1
  have hus : D.beg.used = D.used := by unfold Dk.used; rw [(beg_fl D).1, (beg_fl D).2.1]
  have HR := Lib.hid hrm
  have HU := Lib.hid hus
  have hw1 : IntKind.i64.wrap ((D.room : Int) - (D.used : Int)) = (D.room : Int) - (D.used : Int) := IntWalk.i64_in _ (by omega)
  have hw2 : decide ((D.room : Int) - (D.used : Int) < (n : Int)) = true := by simp; omega
  have HW1 := Lib.hid hw1
  clear hrm hus hw1
  go_enter Tryz.func12, Tryz.ntmps12
  go_wp2_with fail
  refine (find_ok C hD hH s hs b h).mono ?_
  rintro e w1 ⟨rfl, A1, hD1, hH1⟩
  have ⟨nb, no, kb, ko, cv, Ac, Af, hA1, _⟩ := hD1
  have d0 : w1.cell? ⟨d, 0, none⟩ = some (.int .i64 D.room) := by rw [← HR.out]; exact (@Hp.cell _ _ _ hH1 d (dkCells D.beg nb kb cv) 82 (0, 0) (by rw [hA1]; simp)) rfl
  have hw1 := HW1.out
  have HH1 := Lib.hid hH1
  have HA1 := Lib.hid hA1
  clear hH1 hA1
  go_wp2_with fail
  go_region_held3 (fun w' => w'.cell? ⟨d, 0, none⟩ = some (.int .i64 D.room))
    (first
      | go_keep
      | exact d02)
    (first
      | (go_at_call 50
         with_reducible refine (used_any P d D.beg A1 F hD1 hW.beg (by rw [HU.out]; exact hu) _ HH1.out.drew).mono ?_
         rintro e w2 ⟨rfl, hH2⟩
         rw [HU.out]
         have d02 : w2.cell? ⟨d, 0, none⟩ = some (.int .i64 D.room) := by rw [← HR.out]; exact (@Hp.cell _ _ _ hH2 d (dkCells D.beg nb kb cv) 82 (0, 0) (by rw [HA1.out]; simp)) rfl))
  have ce : w2.cell? ⟨3, 0, none⟩ = some (.iface 289 (.pointer (some (E 8)))) := (hH2.use C.errs).at_ 8 (C.all 8 (by decide))
  go_wp2_with fail
  go_ret
  exact ⟨rfl, A1, hD1, hH2⟩

set_option maxRecDepth 100000 in
set_option maxHeartbeats 400000 in
theorem dappend_bad (C : Ctx S E B P) (hD : DkM P d D A) (hH : Hp w P (A ++ F)) (s : Nam) (hs : s.length ≤ 1099511627776) (c : Nat) (h : D.find s = .error c) (y : Value) :
    ∃ a, ev E c = .iface 289 a ∧ Calls Tryz.prog 12 #[ptr d, str s, y] w fun e w' => e = .returned (.iface 289 a) ∧ ∃ A', DkM P d D.beg A' ∧ Hp w' P (A' ++ F) := by
  obtain ⟨a, ha, hf⟩ := find_bad C hD hH s hs c h
  refine ⟨a, ha, ?_⟩
  clear ha h
  go_enter Tryz.func12, Tryz.ntmps12
  go_wp2_with fail
  refine hf.mono ?_
  rintro e w1 ⟨rfl, A1, hD1, hH1⟩
  go_wp2_with fail
  go_ret
  exact ⟨rfl, A1, hD1, hH1⟩

theorem bad_sync (C : Ctx S E B P) (hD : DkM P d D A) (hH : Hp w P (A ++ F)) (s : Nam) (hs : s.length ≤ 1099511627776) (c : Nat) (h : D.find s = .error c) :
    ∃ a, ev E c = .iface 289 a ∧ Calls Tryz.prog 62 #[ptr d, str s] w fun e w' => e = .returned (.iface 289 a) ∧ ∃ A', DkM P d D.beg A' ∧ Hp w' P (A' ++ F) := by
  obtain ⟨a, ha, hf⟩ := find_bad C hD hH s hs c h
  refine ⟨a, ha, ?_⟩
  clear ha h
  go_enter Tryz.func62, Tryz.ntmps62
  go_wp2_with fail
  refine hf.mono ?_
  rintro e w1 ⟨rfl, A1, hD1, hH1⟩
  go_wp2_with fail
  go_ret
  exact ⟨rfl, A1, hD1, hH1⟩

def Dk.cut (D : Dk) (f : Fl) (n : Nat) : Dk := D.beg.withF { f with b := f.b.take n, s := n } (wrap64 (D.calls + 1))

set_option maxRecDepth 100000 in
set_option maxHeartbeats 400000 in
theorem dcut_ok (C : Ctx S E B P) (hD : DkM P d D A) (hH : Hp w P (A ++ F)) (s : Nam) (hs : s.length ≤ 1099511627776) (b : Nat) (h : D.find s = .ok b) (f : Fl) (hf : ffind D.fl b = some f) (n : Nat) (hn : n ≤ f.b.length) (hfb : f.b.length ≤ 1099511627776) :
    Calls Tryz.prog 61 #[ptr d, str s, .int .i64 n] w fun e w' => e = .returned .nilIface ∧ ∃ P' A', Sub P P' ∧ DkM P' d (D.cut f n) A' ∧ Hp w' P' (A' ++ F) := by
  have hf' : ffind D.beg.fl b = some f := by rw [(beg_fl D).1]; exact hf
  have hcl : D.beg.calls = D.calls := (beg_fl D).2.2.2.2.2.2
  have HF := Lib.hid hf'
  have HC := Lib.hid hcl
  have hln : Hid ((f.b.take n).length = n) := by rw [Hid, List.length_take]; omega
  clear hf hf' hcl
  go_enter Tryz.func61, Tryz.ntmps61
  go_wp2_with fail
  refine (find_ok C hD hH s hs b h).mono ?_
  rintro e w1 ⟨rfl, A1, hD1, hH1⟩
  obtain ⟨nb, kb, cv, v, A0, hv, hp, hback⟩ := hD1.file hH1.nd HF.out
  obtain ⟨-, hblk⟩ := ffind_mem HF.out
  subst hblk
  obtain ⟨va, vc, rfl, hvc⟩ := (hH1.use hv).shape
  have hH2 : Hp w1 P (((d, Obj.cells (dkCells D.beg nb kb cv) 82 (0, 0)) :: (f.blk, Obj.cells (fcells f (.slice va f.b.length vc)) 89 (0, 0)) :: A0) ++ F) := hH1.perm (hp.append_right F)
  obtain ⟨-, c1, c2, cf⟩ := hH2.fcell (f := f) (v := .slice va f.b.length vc) (by simp)
  have HV : Hid (Pers P (fun w => SlB w (.slice va n vc) (f.b.take n))) := fun w' hw' => by
    have hq := hv w' hw'
    rcases hq with ⟨h1, h2⟩ | ⟨g, off, cap, h1, h2, h3, h4⟩ | ⟨a', cap, h1, h2⟩
    case inr.inr =>
      injection h1 with ha hb hc
      have : n = 0 := by omega
      exact Or.inr (Or.inr ⟨a', vc, by rw [this, ha], by rw [h2]; simp⟩)
    · injection h1 with ha hb hc
      have : n = 0 := by omega
      exact Or.inl ⟨by rw [this, ha, hc], by rw [h2]; simp⟩
    · injection h1 with ha hb hc
      subst ha hc
      exact Or.inr (Or.inl ⟨g, off, vc, by rw [hln.out], by rw [hln.out]; omega, h3, fun i x hx => h4 i x (by rw [List.getElem?_take] at hx; split at hx; exact hx; cases hx)⟩)
  have i1 : (n : Int) ≤ (f.b.length : Int) := by omega
  have i2 : (n : Int) ≤ (vc : Int) := by omega
  have i3 : ¬ ((f.b.length : Int) < (n : Int)) := by omega
  have HH1 := Lib.hid hH2
  have HB := Lib.hid hback
  clear hp hback hH1 hv hH2
  by_cases e : vc = 0
  · subst e
    obtain rfl : n = 0 := by omega
    go_wp2_with fail
    refine (clone_any _ _ _ (HH1.out.use HV.out) (by rw [hln.out]; omega)).mono ?_
    rintro e w4 ⟨⟨v3, rfl, hown, -⟩, hbel⟩
    rw [hln.out] at hown
    have hH4 := HH1.out.below hbel (Nat.le_refl _)
    obtain ⟨A3, hr3, hH5⟩ := Hp.rowNew HH1.out hH4 hown (Nat.le_refl _)
    obtain ⟨P', hs', hH6, hp6⟩ := Hp.sealBytes hH5 hr3
    obtain ⟨v3a, v3c, rfl⟩ := hr3.shape
    obtain ⟨-, e1, e2, ef⟩ := hH6.fcell (f := f) (v := .slice va f.b.length 0) (by simp)
    have e7 : w4.cell? ⟨d, 7, none⟩ = some (.int .i64 D.calls) := by rw [← HC.out]; exact (@Hp.cell _ _ _ hH6 d (dkCells D.beg nb kb cv) 82 (0, 0) (by simp)) rfl
    have g7 := @Hp.frozen _ _ _ hH6 d (dkCells D.beg nb kb cv) 82 (by simp) 7
    have g1 := ef 1
    have g2 := ef 2
    have hne : ¬ f.blk = d := by
      have := hH6.nodup
      simp at this
      exact fun e => this.1.1 e.symm
    have hne2 : ¬ d = f.blk := fun e => hne e.symm
    have HS := Lib.hid hs'
    have H6 := Lib.hid hH6
    have H7 := Lib.hid hp6
    clear hs' hH6 hp6 hr3 hH5 hH4 hown hbel ef cf c1 c2
    go_wp2_with fail
    go_ret
    refine ⟨rfl, P', ?_⟩
    obtain ⟨A', h1, h2⟩ := HB.out P' { f with b := f.b.take 0, s := 0 } (.slice v3a 0 v3c) (wrap64 (D.calls + 1)) HS.out rfl ⟨rfl, fun _ => Nat.zero_le _⟩ H7.out
    refine ⟨A', HS.out, h1, ?_⟩
    have hG := ((((H6.out.pick 1 rfl).set 1 (.slice v3a 0 v3c)).set 2 (.int .i64 (0 : Nat))).pick 1 rfl).set 7 (.int .i64 (wrap64 (D.calls + 1)))
    refine Hp.perm (M := _ ++ F) ?_ (h2.append_right F)
    simpa [dkCells, fcells, Dk.withF] using hG
  · go_wp2_with fail
    refine (clone_any _ _ _ (HH1.out.use HV.out) (by rw [hln.out]; omega)).mono ?_
    rintro e w4 ⟨⟨v3, rfl, hown, -⟩, hbel⟩
    rw [hln.out] at hown
    have hH4 := HH1.out.below hbel (Nat.le_refl _)
    obtain ⟨A3, hr3, hH5⟩ := Hp.rowNew HH1.out hH4 hown (Nat.le_refl _)
    obtain ⟨P', hs', hH6, hp6⟩ := Hp.sealBytes hH5 hr3
    obtain ⟨v3a, v3c, rfl⟩ := hr3.shape
    obtain ⟨-, e1, e2, ef⟩ := hH6.fcell (f := f) (v := .slice va f.b.length vc) (by simp)
    have e7 : w4.cell? ⟨d, 7, none⟩ = some (.int .i64 D.calls) := by rw [← HC.out]; exact (@Hp.cell _ _ _ hH6 d (dkCells D.beg nb kb cv) 82 (0, 0) (by simp)) rfl
    have g7 := @Hp.frozen _ _ _ hH6 d (dkCells D.beg nb kb cv) 82 (by simp) 7
    have g1 := ef 1
    have g2 := ef 2
    have hne : ¬ f.blk = d := by
      have := hH6.nodup
      simp at this
      exact fun e => this.1.1 e.symm
    have hne2 : ¬ d = f.blk := fun e => hne e.symm
    have HS := Lib.hid hs'
    have H6 := Lib.hid hH6
    have H7 := Lib.hid hp6
    clear hs' hH6 hp6 hr3 hH5 hH4 hown hbel ef cf c1 c2
    go_wp2_with fail
    go_ret
    refine ⟨rfl, P', ?_⟩
    obtain ⟨A', h1, h2⟩ := HB.out P' { f with b := f.b.take n, s := n } (.slice v3a n v3c) (wrap64 (D.calls + 1)) HS.out rfl ⟨rfl, fun _ => Nat.le_of_eq hln.out.symm⟩ H7.out
    refine ⟨A', HS.out, h1, ?_⟩
    have hG := ((((H6.out.pick 1 rfl).set 1 (.slice v3a n v3c)).set 2 (.int .i64 (n : Nat))).pick 1 rfl).set 7 (.int .i64 (wrap64 (D.calls + 1)))
    refine Hp.perm (M := _ ++ F) ?_ (h2.append_right F)
    simpa [dkCells, fcells, Dk.withF] using hG
end

end Go.Proofs.YtncjffkpkmjgkaaGreatDoor.Sg

/-! Dl -/
namespace Go.Proofs.YtncjffkpkmjgkaaGreatDoor.Sg
open Go.RowKit Er Go.Maps

theorem Hp.sub {w : World} {P : Pm} {M M' : Mm} (h : Hp w P M) (s : M'.Sublist M) : Hp w P M' :=
  ⟨h.agr, fun x hx => h.own x (s.subset hx), h.nodup.sublist (s.map _), fun x hx => h.apart x (s.subset hx)⟩

set_option maxRecDepth 100000 in
set_option maxHeartbeats 400000 in
theorem mclone_any {P : Pm} {M : Mm} {w : World} (hH : Hp w P M) {b : Nat} {o : Obj} (hm : (b, o) ∈ M) {m : Kv} (ho : MapO 9 o m) :
    Calls Tryz.prog 78 #[.map (some b)] w fun e w' => e = .returned (.map (some w.heap.size)) ∧ w' = w.alloc o := by
  obtain ⟨es, clock, rfl, -⟩ := ho
  have hb : w.heap[b]? = some (.map es clock) := hH.own _ hm
  have hq := fun w => run_eql_map_nil_sl (P := Tryz.prog) w 79 _ _ (some b) Tryz.underlying79
  clear hH hm
  go_enter Tryz.func78, Tryz.ntmps78
  go_wp2_with fail
  rw [run_callFunc_extern Tryz.func118 (by kernel_rfl) (by kernel_rfl) (by kernel_rfl) (e := Extern.MapsClone.clone) (by kernel_rfl), run_maps_clone_sl w 79 hb]
  simp only [Result.andThen]
  rw [Oper.upon_value]
  go_wp2_with fail
  rw [run_typeAssert_map_sl _ 79 20 _ _ _ Tryz.underlying79]
  simp only [Result.andThen]
  rw [Oper.upon_value]
  go_wp2_with fail
  go_ret
  exact ⟨rfl, rfl⟩

def Dk.sdir (D : Dk) : Dk := { D.beg with kp := D.nm, ch := [], calls := wrap64 (D.calls + 1) }

section
variable {S : List Nat} {E : Nat → Addr} {B : Nat} {P : Pm} {d : Nat} {D : Dk} {A F : Mm} {w : World}

set_option maxRecDepth 100000 in
set_option maxHeartbeats 400000 in
theorem sdir_ok (C : Ctx S E B P) (hD : DkM P d D A) (hH : Hp w P (A ++ F)) (h : D.ok = true) :
    Calls Tryz.prog 69 #[ptr d] w fun e w' => e = .returned .nilIface ∧ ∃ A', DkM P d D.sdir A' ∧ Hp w' P (A' ++ F) := by
  have hcl : D.beg.calls = D.calls := (beg_fl D).2.2.2.2.2.2
  have hnm : D.beg.nm = D.nm := (beg_fl D).2.1
  have HC := Lib.hid hcl
  have HN := Lib.hid hnm
  clear hcl hnm
  go_enter Tryz.func69, Tryz.ntmps69
  go_wp2_with fail
  refine (begin_ok C hD hH h).mono ?_
  rintro e w1 ⟨rfl, A1, hD1, hH1⟩
  obtain ⟨nb, no, kb, ko, cv, Ac, Af, rfl, h2, h3, h4, h5, h6⟩ := hD1
  have dx := @Hp.cell _ _ _ hH1 d (dkCells D.beg nb kb cv) 82 (0, 0) (by simp)
  have d1 : w1.cell? ⟨d, 1, none⟩ = some (.map (some nb)) := dx rfl
  have hH2 := hH1.alloc no
  have ex := @Hp.cell _ _ _ hH2 d (dkCells D.beg nb kb cv) 82 (0, 0) (by simp)
  have e2 : (w1.alloc no).cell? ⟨d, 2, none⟩ = some (.map (some kb)) := ex rfl
  have e3 : (w1.alloc no).cell? ⟨d, 3, none⟩ = some cv := ex rfl
  have e7 : (w1.alloc no).cell? ⟨d, 7, none⟩ = some (.int .i64 D.calls) := by rw [← HC.out]; exact ex rfl
  have fx := @Hp.frozen _ _ _ hH2 d (dkCells D.beg nb kb cv) 82 (by simp)
  have f2 := fx 2
  have f3 := fx 3
  have f7 := fx 7
  have H1 := Lib.hid hH1
  have H2 := Lib.hid hH2
  have K2 := Lib.hid h2
  clear dx ex fx hH1 hH2 h2
  go_wp2_with fail
  refine (mclone_any H1.out (b := nb) (o := no) (by simp) K2.out).mono ?_
  rintro e w2 ⟨rfl, rfl⟩
  go_wp2_with fail
  go_ret
  refine ⟨rfl, _, ⟨nb, no, w1.heap.size, no, .slice none 0 0, [], Af, rfl, ?_, ?_, rowM_nil _ _, h5, h6⟩, ?_⟩
  · show MapO _ no (kvOf D.beg.nm)
    exact K2.out
  · show MapO _ no (kvOf D.nm)
    rw [← HN.out]; exact K2.out
  · have hG := (((H2.out.pick 1 rfl).set 2 (.map (some w1.heap.size))).set 3 (.slice none 0 0)).set 7 (.int .i64 (wrap64 (D.calls + 1)))
    refine Hp.perm (M := (d, Obj.cells (dkCells D.sdir nb w1.heap.size (.slice none 0 0)) 82 (0, 0)) :: (w1.heap.size, no) :: (nb, no) :: (Af ++ F))
      (Hp.sub (M := (d, Obj.cells (dkCells D.sdir nb w1.heap.size (.slice none 0 0)) 82 (0, 0)) :: (w1.heap.size, no) :: (nb, no) :: (kb, ko) :: (Ac ++ (Af ++ F))) ?_
        (List.Sublist.cons_cons _ (List.Sublist.cons_cons _ (List.Sublist.cons_cons _ (List.Sublist.cons _ (List.sublist_append_right _ _)))))) (List.Perm.cons _ (List.Perm.swap _ _ _))
    simpa [dkCells, Dk.sdir] using hG
end

end Go.Proofs.YtncjffkpkmjgkaaGreatDoor.Sg

/-! Dm -/
namespace Go.Proofs.YtncjffkpkmjgkaaGreatDoor.Sg
open Go.RowKit Er Go.Maps

def dk0 (room : Nat) : Dk := ⟨room, [], [], [], [], 0, 0, false, 0⟩
theorem dkW0 (room : Nat) : DkW (dk0 room) := ⟨by simp [dk0], by simp [dk0], by simp [dk0]⟩

section
variable {S : List Nat} {E : Nat → Addr} {B : Nat} {P : Pm} {d : Nat} {D : Dk} {A F : Mm} {w : World}

set_option maxRecDepth 100000 in
set_option maxHeartbeats 400000 in
theorem new_ok (hH : Hp w P F) (room : Nat) (h1 : 1 ≤ room) (h2 : room ≤ 4194304) :
    Calls Tryz.prog 9 #[.int .i64 room] w fun e w' => ∃ d A, e = .returned (.tuple #[ptr d, .nilIface]) ∧ DkM P d (dk0 room) A ∧ Hp w' P (A ++ F) := by
  have hmm := @run_makeMap Tryz.prog
  have H := Lib.hid hH
  clear hH
  go_enter Tryz.func9, Tryz.ntmps9
  go_wp2_with fail
  go_ret2
  refine ⟨w.heap.size + 2, [(w.heap.size + 2, Obj.cells (dkCells (dk0 room) w.heap.size (w.heap.size + 1) (.slice none 0 0)) 82 (0, 0)), (w.heap.size, .map #[] 0), (w.heap.size + 1, .map #[] 0)], rfl, ⟨w.heap.size, _, w.heap.size + 1, _, .slice none 0 0, [], [], rfl, mapO_new _, mapO_new _, rowM_nil _ _, rfl, Nat.zero_le _, fun f hf => by cases hf⟩, ?_⟩
  have hG := ((H.out.alloc (.map #[] 0)).alloc (.map #[] 0)).alloc (.cells (dkCells (dk0 room) w.heap.size (w.heap.size + 1) (.slice none 0 0)) 82)
  simp only [World.alloc_size'] at hG
  exact hG.perm (List.Perm.cons _ (List.Perm.swap _ _ _))

theorem new_bad (C : Ctx S E B P) (hH : Hp w P F) (room : Int) (h : room < 1 ∨ 4194304 < room) :
    Calls Tryz.prog 9 #[.int .i64 room] w fun e w' => e = .returned (.tuple #[.pointer none, .iface 289 (.pointer (some (E 4)))]) ∧ Hp w' P F := by
  have ce : w.cell? ⟨0, 0, none⟩ = some (.iface 289 (.pointer (some (E 4)))) := (hH.use C.errs).at_ 4 (C.all 4 (by decide))
  by_cases h1 : room < 1
  · go_enter Tryz.func9, Tryz.ntmps9
    go_wp2_with fail
    go_quiet (fail)
    go_wp2_with fail
    go_ret2
    exact ⟨rfl, hH.drewN _⟩
  · have h2 : 4194304 < room := by omega
    go_enter Tryz.func9, Tryz.ntmps9
    go_wp2_with fail
    go_quiet (fail)
    go_wp2_with fail
    go_ret2
    exact ⟨rfl, hH.drewN _⟩

/-- A new file. -/
def Dk.create (D : Dk) (s : Nam) (b : Nat) : Dk := Dk.change { D.beg with n := D.n + 1, fl := D.fl ++ [⟨b, D.n + 1, [], 0⟩] } ⟨s, [], some b⟩

set_option maxRecDepth 100000 in
set_option maxHeartbeats 400000 in
theorem create_ok (C : Ctx S E B P) (hD : DkM P d D A) (hH : Hp w P (A ++ F)) (h : D.ok = true) (s : Nam) (hs : vname s = true) (hnone : nfind D.nm s = none) (hn : D.n ≤ 1000000) (hl : D.nm.length < 1000000) (hc : D.ch.length ≤ 1000000) :
    Calls Tryz.prog 11 #[ptr d, str s] w fun e w' => e = .returned .nilIface ∧ ∃ b A', DkM P d (D.create s b) A' ∧ Hp w' P (A' ++ F) := by
  simp only [vname, Bool.and_eq_true, decide_eq_true_eq, List.all_eq_true] at hs
  obtain ⟨⟨s1, s2⟩, s3⟩ := hs
  have S3 : Hid (∀ (i : Nat) (h : i < s.length), nchar s[i] = true) := fun i h => s3 _ (List.getElem_mem h)
  obtain ⟨e1, e2, e3, e4, e5, e6, e7⟩ := beg_fl D
  have E1 := Lib.hid e1
  have E2 := Lib.hid e2
  have E4 := Lib.hid e4
  have E5 := Lib.hid e5
  have HN := Lib.hid hnone
  clear s3 e1 e2 e3 e4 e5 e6 e7 hnone
  go_enter Tryz.func11, Tryz.ntmps11
  go_wp2_with fail
  refine (begin_ok C hD hH h).mono ?_
  rintro e w1 ⟨rfl, A1, hD1, hH1⟩
  obtain ⟨nb, no, kb, ko, cv, Ac, Af, rfl, h2, h3, h4, h5, h6⟩ := hD1
  go_wp2_with fail
  refine (valid_yes s s1 s2 S3.out _).mono ?_
  rintro e w' ⟨rfl, rfl⟩
  have hlk := look_nm hH1 (nb := nb) (no := no) (by simp) h2 s (by omega)
  rw [E2.out, HN.out] at hlk
  simp only [optPtr] at hlk
  have dx := @Hp.cell _ _ _ hH1 d (dkCells D.beg nb kb cv) 82 (0, 0) (by simp)
  have d1 : w1.cell? ⟨d, 1, none⟩ = some (.map (some nb)) := dx rfl
  have d4 : w1.cell? ⟨d, 4, none⟩ = some (.int .i64 D.n) := by rw [← E5.out]; exact dx rfl
  have f4 := @Hp.frozen _ _ _ hH1 d (dkCells D.beg nb kb cv) 82 (by simp) 4
  have H1 := Lib.hid hH1
  clear dx hH1
  go_wp2_with fail
  have hX := (H1.out.set 4 (.int .i64 ((D.n : Int) + 1))).alloc (.cells #[.int .i64 ((D.n : Int) + 1), .slice none 0 0, .int .i64 0] 89)
  have hDX : DkM P d { D.beg with n := D.n + 1, fl := D.fl ++ [⟨w1.heap.size, D.n + 1, [], 0⟩] } ((d, Obj.cells (dkCells { D.beg with n := D.n + 1, fl := D.fl ++ [⟨w1.heap.size, D.n + 1, [], 0⟩] } nb kb cv) 82 (0, 0)) :: (nb, no) :: (kb, ko) :: (Ac ++ (Af ++ [(w1.heap.size, Obj.cells (fcells ⟨w1.heap.size, D.n + 1, [], 0⟩ (.slice none 0 0)) 89 (0, 0))]))) := by
    refine ⟨nb, no, kb, ko, cv, Ac, _, rfl, h2, h3, h4, ?_, h6.1, ?_⟩
    · rw [E1.out] at h5
      exact h5.join ⟨.slice none 0 0, [], rfl, fun w' _ => SlB.nil w', rfl⟩
    · intro f hf
      have h62 := h6.2
      unfold FlOk at h62
      rw [E1.out, E5.out] at h62
      rcases List.mem_append.1 hf with hf | hf
      · exact ⟨Nat.le_succ_of_le (h62 f hf).1, (h62 f hf).2⟩
      · rw [List.mem_singleton.1 hf]
        exact ⟨Nat.le_refl _, Nat.le_refl _⟩
  have hHX : Hp ((w1.setCell ⟨d, 4, none⟩ (.int .i64 ((D.n : Int) + 1))).alloc (.cells #[.int .i64 ((D.n : Int) + 1), .slice none 0 0, .int .i64 0] 89)) P
      (((d, Obj.cells (dkCells { D.beg with n := D.n + 1, fl := D.fl ++ [⟨w1.heap.size, D.n + 1, [], 0⟩] } nb kb cv) 82 (0, 0)) :: (nb, no) :: (kb, ko) :: (Ac ++ (Af ++ [(w1.heap.size, Obj.cells (fcells ⟨w1.heap.size, D.n + 1, [], 0⟩ (.slice none 0 0)) 89 (0, 0))]))) ++ F) := by
    rw [Deep.nblk_setCell] at hX
    have hY : Hp ((w1.setCell ⟨d, 4, none⟩ (.int .i64 ((D.n : Int) + 1))).alloc (.cells #[.int .i64 ((D.n : Int) + 1), .slice none 0 0, .int .i64 0] 89)) P
        ((w1.heap.size, Obj.cells (fcells ⟨w1.heap.size, D.n + 1, [], 0⟩ (.slice none 0 0)) 89 (0, 0)) :: ([(d, Obj.cells (dkCells { D.beg with n := D.n + 1, fl := D.fl ++ [⟨w1.heap.size, D.n + 1, [], 0⟩] } nb kb cv) 82 (0, 0)), (nb, no), (kb, ko)] ++ Ac ++ Af ++ F)) := by
      simpa [dkCells, fcells, List.append_assoc] using hX
    refine hY.perm ?_
    have hz : ∀ x : Nat × Obj, (((d, Obj.cells (dkCells { D.beg with n := D.n + 1, fl := D.fl ++ [⟨w1.heap.size, D.n + 1, [], 0⟩] } nb kb cv) 82 (0, 0)) :: (nb, no) :: (kb, ko) :: (Ac ++ (Af ++ [x]))) ++ F) =
        ([(d, Obj.cells (dkCells { D.beg with n := D.n + 1, fl := D.fl ++ [⟨w1.heap.size, D.n + 1, [], 0⟩] } nb kb cv) 82 (0, 0)), (nb, no), (kb, ko)] ++ Ac ++ Af) ++ x :: F := by intro x; simp
    rw [hz]
    exact List.perm_middle.symm
  have l1 : D.beg.nm.length < 1000000 := by rw [E2.out]; exact hl
  have l2 : D.beg.ch.length ≤ 1000000 := by rw [E4.out]; exact hc
  have HX := Lib.hid hHX
  have DX := Lib.hid hDX
  clear hX hHX hDX h2 h3 h4 h5 d1 d4 f4 hlk
  refine (change_any P d _ _ F DX.out s [] (some w1.heap.size) (ptr w1.heap.size) rfl l1 l2 (by omega) (by simp) _ HX.out).mono ?_
  rintro e w2 ⟨rfl, A2, hD2, hH2⟩
  go_wp2_with fail
  go_ret
  exact ⟨rfl, w1.heap.size, A2, hD2, hH2⟩
end

end Go.Proofs.YtncjffkpkmjgkaaGreatDoor.Sg

/-! Dn -/
namespace Go.Proofs.YtncjffkpkmjgkaaGreatDoor.Sg
open Go.RowKit Er Go.Maps

/-- The file of a name. -/
def Dk.look (D : Dk) (s : Nam) : Option Fl := (nfind D.nm s).bind (ffind D.fl)
/-- A disk whose power is on, whose names are each another file's. -/
structure DkI (D : Dk) : Prop where
  w : DkW D
  nd : (D.nm.map (·.1)).Nodup
  inj : (D.nm.map (·.2)).Nodup
  arm : D.arm = 0
  down : D.down = false

theorem DkI.beg {D : Dk} (h : DkI D) : D.beg = D := by simp [Dk.beg, h.arm]
theorem DkI.ok {D : Dk} (h : DkI D) : D.ok = true := by simp [Dk.ok, h.arm, h.down]

theorem ffind_fset (l : List Fl) (g : Fl) (b : Nat) : ffind (fset l g) b = if b = g.blk ∧ (ffind l b).isSome then some g else ffind l b := by
  induction l with
  | nil => simp [ffind, fset]
  | cons x l ih =>
    unfold ffind fset at ih ⊢
    rw [List.map_cons]
    by_cases e : x.blk = b
    · have e1 : (if x.blk = g.blk then g else x).blk = b := by split <;> simp_all
      rw [List.find?_cons_of_pos (by simp [e1]), List.find?_cons_of_pos (by simp [e])]
      by_cases e2 : b = g.blk
      · rw [if_pos (by simp [e, e2]), if_pos ⟨e2, rfl⟩]
      · rw [if_neg (by rw [e]; exact e2), if_neg (fun h => e2 h.1)]
    · have e1 : ¬ (if x.blk = g.blk then g else x).blk = b := by
        split
        · rename_i h; rw [← h]; exact e
        · exact e
      rw [List.find?_cons_of_neg (by simpa using e1), List.find?_cons_of_neg (by simpa using e)]
      exact ih
theorem ffind_of_mem {l : List Fl} (hn : (l.map (·.blk)).Nodup) {f : Fl} (h : f ∈ l) : ffind l f.blk = some f := by
  induction l with
  | nil => cases h
  | cons x l ih =>
    rw [List.map_cons, List.nodup_cons] at hn
    unfold ffind
    rcases List.mem_cons.1 h with rfl | h'
    · rw [List.find?_cons_of_pos (by simp)]
    · rw [List.find?_cons_of_neg]
      · exact ih hn.2 h'
      · simp only [beq_iff_eq]
        intro e
        exact hn.1 (List.mem_map.2 ⟨f, h', e.symm⟩)

theorem look_some {D : Dk} {s : Nam} {f : Fl} (h : D.look s = some f) : nfind D.nm s = some f.blk ∧ ffind D.fl f.blk = some f := by
  unfold Dk.look at h
  obtain ⟨b, h1, h2⟩ := Option.bind_eq_some_iff.1 h
  obtain ⟨-, h3⟩ := ffind_mem h2
  subst h3
  exact ⟨h1, h2⟩
theorem look_none {D : Dk} (hW : DkW D) {s : Nam} (h : D.look s = none) : nfind D.nm s = none := by
  unfold Dk.look at h
  cases hn : nfind D.nm s with
  | none => rfl
  | some b =>
    obtain ⟨f, hf⟩ := hW.nm (s, b) (nfind_mem hn)
    rw [hn] at h
    simp only [Option.bind_some] at h
    rw [hf] at h
    cases h
theorem DkI.file_ok {D : Dk} (hI : DkI D) {s : Nam} {f : Fl} (h : D.look s = some f) : D.file s = .ok f.blk := by
  unfold Dk.file
  rw [if_neg (by simp [hI.down]), (look_some h).1]
theorem DkI.file_none {D : Dk} (hI : DkI D) {s : Nam} (h : D.look s = none) : D.file s = .error 107 := by
  unfold Dk.file
  rw [if_neg (by simp [hI.down]), look_none hI.w h]
theorem DkI.find_ok {D : Dk} (hI : DkI D) {s : Nam} {f : Fl} (h : D.look s = some f) : D.find s = .ok f.blk := by
  unfold Dk.find
  rw [if_pos hI.ok, hI.beg, hI.file_ok h]
theorem DkI.find_none {D : Dk} (hI : DkI D) {s : Nam} (h : D.look s = none) : D.find s = .error 107 := by
  unfold Dk.find
  rw [if_pos hI.ok, hI.beg, hI.file_none h]

theorem inj_list : ∀ {m : List (Nam × Nat)}, (m.map (·.2)).Nodup → ∀ {s s' : Nam} {b : Nat}, (s, b) ∈ m → (s', b) ∈ m → s = s'
  | [], _, _, _, _, h1, _ => by cases h1
  | p :: l, hn, s, s', b, h1, h2 => by
    rw [List.map_cons, List.nodup_cons] at hn
    rcases List.mem_cons.1 h1 with e1 | m1
    · rcases List.mem_cons.1 h2 with e2 | m2
      · have := e1.trans e2.symm
        simpa using this
      · exact absurd (List.mem_map.2 ⟨(s', b), m2, by rw [← e1]⟩) hn.1
    · rcases List.mem_cons.1 h2 with e2 | m2
      · exact absurd (List.mem_map.2 ⟨(s, b), m1, by rw [← e2]⟩) hn.1
      · exact inj_list hn.2 m1 m2
theorem inj_name {D : Dk} (hI : DkI D) {s s' : Nam} {b : Nat} (h : nfind D.nm s = some b) (h' : nfind D.nm s' = some b) : s = s' := inj_list hI.inj (nfind_mem h) (nfind_mem h')

/-! ### another file of the same block -/
theorem fset_some {l : List Fl} {g : Fl} {b : Nat} (h : ∃ f, ffind l b = some f) : ∃ f, ffind (fset l g) b = some f := by
  rw [ffind_fset]
  split
  · exact ⟨_, rfl⟩
  · exact h
theorem withF_I {D : Dk} (hI : DkI D) (g : Fl) (c : Int) : DkI (D.withF g c) :=
  ⟨⟨fun p hp => fset_some (hI.w.nm p hp), fun p hp => fset_some (hI.w.kp p hp), fun x hx b hb => fset_some (hI.w.ch x hx b hb)⟩, hI.nd, hI.inj, hI.arm, hI.down⟩
theorem withF_look {D : Dk} (hI : DkI D) {s : Nam} {f : Fl} (h : D.look s = some f) (g : Fl) (hg : g.blk = f.blk) (c : Int) (s' : Nam) : (D.withF g c).look s' = if s' = s then some g else D.look s' := by
  obtain ⟨h1, h2⟩ := look_some h
  by_cases e : s' = s
  · subst e
    rw [if_pos rfl]
    show (nfind D.nm s').bind (ffind (fset D.fl g)) = _
    rw [h1, Option.bind_some, ffind_fset, if_pos ⟨hg.symm, by rw [h2]; rfl⟩]
  · rw [if_neg e]
    show (nfind D.nm s').bind (ffind (fset D.fl g)) = (nfind D.nm s').bind (ffind D.fl)
    cases hn : nfind D.nm s' with
    | none => rfl
    | some b =>
      rw [Option.bind_some, Option.bind_some, ffind_fset, if_neg]
      rintro ⟨rfl, -⟩
      rw [hg] at hn
      exact e (inj_name hI hn h1)
theorem sum_one {m : List (Nam × Nat)} {p : Nam × Nat} (hp : p ∈ m) (hn : (m.map (·.2)).Nodup) (F F' : Nam × Nat → Nat) (h : ∀ q, q ∈ m → q.2 ≠ p.2 → F' q = F q) : allSum F' m + F p = allSum F m + F' p := by
  unfold allSum
  induction m with
  | nil => cases hp
  | cons q l ih =>
    rw [List.map_cons, List.nodup_cons] at hn
    rw [List.map_cons, List.map_cons, List.sum_cons, List.sum_cons]
    rcases List.mem_cons.1 hp with rfl | hp'
    · have : l.map F' = l.map F := List.map_congr_left (fun x hx => h x (List.mem_cons_of_mem _ hx) (fun e => hn.1 (List.mem_map.2 ⟨x, hx, e⟩)))
      rw [this]; omega
    · have h1 := ih hp' hn.2 (fun x hx => h x (List.mem_cons_of_mem _ hx))
      have h2 := h q List.mem_cons_self (fun e => hn.1 (List.mem_map.2 ⟨p, hp', e.symm⟩))
      omega
theorem withF_used {D : Dk} (hI : DkI D) {s : Nam} {f : Fl} (h : D.look s = some f) (g : Fl) (hg : g.blk = f.blk) (c : Int) : (D.withF g c).used + f.b.length = D.used + g.b.length := by
  obtain ⟨h1, h2⟩ := look_some h
  have := sum_one (nfind_mem h1) hI.inj (flen D.fl) (flen (fset D.fl g)) (fun q _ hq => by
    unfold flen
    rw [ffind_fset, if_neg (fun e => hq (e.1.trans hg))])
  have e1 : flen D.fl (s, f.blk) = f.b.length := by simp [flen, h2]
  have e2 : flen (fset D.fl g) (s, f.blk) = g.b.length := by
    unfold flen
    rw [ffind_fset, if_pos ⟨hg.symm, by rw [h2]; rfl⟩]; rfl
  rw [e1, e2] at this
  exact this

/-- What a call leaves of a disk besides its files. -/
structure DkSame (D D' : Dk) : Prop where
  room : D'.room = D.room
  nml : D'.nm.length = D.nm.length
  n : D'.n = D.n
  ch : D'.ch.length ≤ D.ch.length
  nmq : D'.nm = D.nm
  kpq : D.kp = D.nm → D'.kp = D'.nm

theorem app_I {D : Dk} (hI : DkI D) (f : Fl) (xs : List Nat) : DkI (D.app f xs) := by unfold Dk.app; rw [hI.beg]; exact withF_I hI _ _
theorem app_look {D : Dk} (hI : DkI D) {s : Nam} {f : Fl} (h : D.look s = some f) (xs : List Nat) (s' : Nam) : (D.app f xs).look s' = if s' = s then some { f with b := f.b ++ xs } else D.look s' := by
  unfold Dk.app; rw [hI.beg]; exact withF_look hI h { f with b := f.b ++ xs } rfl _ _
theorem app_used {D : Dk} (hI : DkI D) {s : Nam} {f : Fl} (h : D.look s = some f) (xs : List Nat) : (D.app f xs).used = D.used + xs.length := by
  have := withF_used hI h { f with b := f.b ++ xs } rfl (wrap64 (D.calls + 1))
  unfold Dk.app; rw [hI.beg]
  simp only [List.length_append] at this
  omega
theorem app_same {D : Dk} (hI : DkI D) (f : Fl) (xs : List Nat) : DkSame D (D.app f xs) := by unfold Dk.app; rw [hI.beg]; exact ⟨rfl, rfl, rfl, Nat.le_refl _, rfl, fun h => h⟩
theorem sync_I {D : Dk} (hI : DkI D) (f : Fl) : DkI (D.sync f) := by unfold Dk.sync; rw [hI.beg]; exact withF_I hI _ _
theorem sync_look {D : Dk} (hI : DkI D) {s : Nam} {f : Fl} (h : D.look s = some f) (s' : Nam) : (D.sync f).look s' = if s' = s then some { f with s := f.b.length } else D.look s' := by
  unfold Dk.sync; rw [hI.beg]; exact withF_look hI h { f with s := f.b.length } rfl _ _
theorem sync_used {D : Dk} (hI : DkI D) {s : Nam} {f : Fl} (h : D.look s = some f) : (D.sync f).used = D.used := by
  have := withF_used hI h { f with s := f.b.length } rfl (wrap64 (D.calls + 1))
  unfold Dk.sync; rw [hI.beg]
  dsimp only at this
  omega
theorem sync_same {D : Dk} (hI : DkI D) (f : Fl) : DkSame D (D.sync f) := by unfold Dk.sync; rw [hI.beg]; exact ⟨rfl, rfl, rfl, Nat.le_refl _, rfl, fun h => h⟩
theorem cut_I {D : Dk} (hI : DkI D) (f : Fl) (n : Nat) : DkI (D.cut f n) := by unfold Dk.cut; rw [hI.beg]; exact withF_I hI _ _
theorem cut_look {D : Dk} (hI : DkI D) {s : Nam} {f : Fl} (h : D.look s = some f) (n : Nat) (s' : Nam) : (D.cut f n).look s' = if s' = s then some { f with b := f.b.take n, s := n } else D.look s' := by
  unfold Dk.cut; rw [hI.beg]; exact withF_look hI h { f with b := f.b.take n, s := n } rfl _ _
theorem cut_used {D : Dk} (hI : DkI D) {s : Nam} {f : Fl} (h : D.look s = some f) (n : Nat) (hn : n ≤ f.b.length) : (D.cut f n).used + f.b.length = D.used + n := by
  have := withF_used hI h { f with b := f.b.take n, s := n } rfl (wrap64 (D.calls + 1))
  unfold Dk.cut; rw [hI.beg]
  simp only [List.length_take, Nat.min_eq_left hn] at this
  exact this
theorem cut_same {D : Dk} (hI : DkI D) (f : Fl) (n : Nat) : DkSame D (D.cut f n) := by unfold Dk.cut; rw [hI.beg]; exact ⟨rfl, rfl, rfl, Nat.le_refl _, rfl, fun h => h⟩
theorem sdir_I {D : Dk} (hI : DkI D) : DkI D.sdir := by
  unfold Dk.sdir; rw [hI.beg]
  exact ⟨⟨hI.w.nm, hI.w.nm, by simp⟩, hI.nd, hI.inj, hI.arm, hI.down⟩
theorem sdir_look {D : Dk} (hI : DkI D) (s : Nam) : D.sdir.look s = D.look s := by unfold Dk.sdir; rw [hI.beg]; rfl
theorem sdir_used {D : Dk} (hI : DkI D) : D.sdir.used = D.used := by unfold Dk.sdir; rw [hI.beg]; rfl
theorem sdir_same {D : Dk} (hI : DkI D) : DkSame D D.sdir := by unfold Dk.sdir; rw [hI.beg]; exact ⟨rfl, rfl, rfl, Nat.zero_le _, rfl, fun _ => rfl⟩

/-! ### a new file -/
theorem ndel_none {m : List (Nam × Nat)} {s : Nam} (h : nfind m s = none) : ndel m s = m := by
  unfold ndel
  rw [List.filter_eq_self]
  intro p hp
  cases e : p.1 == s with
  | false => rfl
  | true =>
    obtain ⟨b, hb⟩ := nfind_of_mem hp
    rw [show p.1 = s from by simpa using e, h] at hb
    cases hb
theorem create_eq {D : Dk} (hI : DkI D) {s : Nam} (h : D.look s = none) (b : Nat) : D.create s b = { D with n := D.n + 1, fl := D.fl ++ [⟨b, D.n + 1, [], 0⟩], nm := (s, b) :: D.nm, ch := D.ch ++ [⟨s, [], some b⟩], calls := wrap64 (D.calls + 1) } := by
  have hb := ndel_none (look_none hI.w h)
  unfold Dk.create Dk.change
  rw [hI.beg]
  simp [chg, nput, hb]
theorem ffind_app {l : List Fl} {f : Fl} {b : Nat} (h : ∃ g, ffind l b = some g) : ffind (l ++ [f]) b = ffind l b := by
  obtain ⟨g, h⟩ := h
  rw [h]
  unfold ffind at h ⊢
  rw [List.find?_append, h]; rfl
theorem create_I {D : Dk} (hI : DkI D) {s : Nam} (h : D.look s = none) {b : Nat} (hn : ((D.create s b).fl.map (·.blk)).Nodup) : DkI (D.create s b) := by
  rw [create_eq hI h] at hn ⊢
  have hlast : ∃ g, ffind (D.fl ++ [⟨b, D.n + 1, [], 0⟩]) b = some g := ⟨_, ffind_of_mem (f := ⟨b, D.n + 1, [], 0⟩) hn (by simp)⟩
  have hold : ∀ k, (∃ g, ffind D.fl k = some g) → ∃ g, ffind (D.fl ++ [⟨b, D.n + 1, [], 0⟩]) k = some g := fun k hk => by rw [ffind_app hk]; exact hk
  have hnone := look_none hI.w h
  have hfresh : ∀ p, p ∈ D.nm → p.2 ≠ b := by
    intro p hp e
    obtain ⟨f, hf⟩ := hI.w.nm p hp
    obtain ⟨h1, h2⟩ := ffind_mem hf
    dsimp only at hn
    rw [List.map_append, List.nodup_append] at hn
    exact hn.2.2 f.blk (List.mem_map.2 ⟨f, h1, rfl⟩) b (by simp) (h2.trans e)
  refine ⟨⟨fun p hp => ?_, fun p hp => hold _ (hI.w.kp p hp), fun c hc k hk => ?_⟩, ?_, ?_, hI.arm, hI.down⟩
  · rcases List.mem_cons.1 hp with rfl | hp
    · exact hlast
    · exact hold _ (hI.w.nm p hp)
  · rcases List.mem_append.1 hc with hc | hc
    · exact hold _ (hI.w.ch c hc k hk)
    · rw [List.mem_singleton.1 hc] at hk
      cases hk
      exact hlast
  · rw [List.map_cons, List.nodup_cons]
    refine ⟨fun hm => ?_, hI.nd⟩
    obtain ⟨p, hp, e⟩ := List.mem_map.1 hm
    obtain ⟨k, hk⟩ := nfind_of_mem hp
    rw [e] at hk
    dsimp only at hk
    rw [hnone] at hk; cases hk
  · rw [List.map_cons, List.nodup_cons]
    refine ⟨fun hm => ?_, hI.inj⟩
    obtain ⟨p, hp, e⟩ := List.mem_map.1 hm
    exact hfresh p hp e
theorem create_look {D : Dk} (hI : DkI D) {s : Nam} (h : D.look s = none) {b : Nat} (hn : ((D.create s b).fl.map (·.blk)).Nodup) (s' : Nam) : (D.create s b).look s' = if s' = s then some ⟨b, D.n + 1, [], 0⟩ else D.look s' := by
  rw [create_eq hI h] at hn ⊢
  unfold Dk.look
  dsimp only at hn ⊢
  by_cases e : s' = s
  · subst e
    rw [if_pos rfl, show nfind ((s', b) :: D.nm) s' = some b from by simp [nfind], Option.bind_some]
    exact ffind_of_mem (f := ⟨b, D.n + 1, [], 0⟩) hn (by simp)
  · have e1 : nfind ((s, b) :: D.nm) s' = nfind D.nm s' := by
      unfold nfind
      rw [List.find?_cons_of_neg (by simpa using fun x => e x.symm)]
    rw [if_neg e, e1]
    cases hf : nfind D.nm s' with
    | none => rfl
    | some k => rw [Option.bind_some, Option.bind_some]; exact ffind_app (hI.w.nm (s', k) (nfind_mem hf))
theorem create_used {D : Dk} (hI : DkI D) {s : Nam} (h : D.look s = none) {b : Nat} (hn : ((D.create s b).fl.map (·.blk)).Nodup) : (D.create s b).used = D.used := by
  rw [create_eq hI h] at hn ⊢
  unfold Dk.used allSum
  dsimp only at hn ⊢
  rw [List.map_cons, List.sum_cons]
  have e1 : flen (D.fl ++ [⟨b, D.n + 1, [], 0⟩]) (s, b) = 0 := by
    unfold flen
    rw [ffind_of_mem (f := ⟨b, D.n + 1, [], 0⟩) hn (by simp)]; rfl
  rw [e1, Nat.zero_add]
  congr 1
  refine List.map_congr_left (fun p hp => ?_)
  unfold flen
  rw [ffind_app (hI.w.nm p hp)]
theorem create_room {D : Dk} (hI : DkI D) {s : Nam} (h : D.look s = none) (b : Nat) : (D.create s b).room = D.room ∧ (D.create s b).nm.length = D.nm.length + 1 ∧ (D.create s b).n = D.n + 1 ∧ (D.create s b).ch.length = D.ch.length + 1 := by
  rw [create_eq hI h]
  exact ⟨rfl, rfl, rfl, by simp⟩
/-- The files' blocks are each another. -/
theorem DkM.blks_nd {P : Pm} {d : Nat} {D : Dk} {A F : Mm} {w : World} (hD : DkM P d D A) (hH : Hp w P (A ++ F)) : (D.fl.map (·.blk)).Nodup := by
  have hn := hH.nd
  obtain ⟨nb, no, kb, ko, cv, Ac, Af, rfl, h2, h3, h4, h5, h6⟩ := hD
  rw [← h5.blks]
  have e : ids ((d, Obj.cells (dkCells D nb kb cv) 82 (0, 0)) :: (nb, no) :: (kb, ko) :: (Ac ++ Af)) = (d :: nb :: kb :: ids Ac) ++ ids Af := by simp [ids]
  rw [e] at hn
  exact (List.nodup_append.1 hn).2.1
theorem dk0_I (room : Nat) : DkI (dk0 room) := ⟨dkW0 room, by simp [dk0], by simp [dk0], rfl, rfl⟩

end Go.Proofs.YtncjffkpkmjgkaaGreatDoor.Sg

/-! Rg -/
namespace Go.Proofs.YtncjffkpkmjgkaaGreatDoor.Sg
open Go.RowKit Er

section
variable {ops : Array Oper} {Q : Exit → Act → World → Prop}

def leftOps (ops : Array Oper) (listed : Array Bool) : Nat := ((List.range ops.size).filter fun i => !listed.getD i true).length

theorem leftOps_step {listed : Array Bool} {i : Nat} (hi : i ∈ Region.ready .any ops listed) : leftOps ops (listed.setIfInBounds i true) < leftOps ops listed := by
  unfold Region.ready at hi
  obtain ⟨h1, h2⟩ := List.mem_filter.1 hi
  simp only [Bool.and_eq_true, Bool.not_eq_true'] at h2
  unfold leftOps
  have hs : i < listed.size := by
    rcases Nat.lt_or_ge i listed.size with h | h
    · exact h
    · have := h2.1; rw [Array.getD_eq_getD_getElem?, Array.getElem?_eq_none h] at this; simp at this
  have hsub : ∀ l : List Nat, ((l.filter fun j => !(listed.setIfInBounds i true).getD j true)).length ≤ (l.filter fun j => !listed.getD j true).length := by
    intro l
    induction l with
    | nil => simp
    | cons j l ih =>
      have hj : (listed.setIfInBounds i true).getD j true = (if i = j then true else listed.getD j true) := by
        rw [Array.getD_eq_getD_getElem?, Array.getElem?_setIfInBounds]
        split
        · rename_i e; subst e; simp
        · rw [Array.getD_eq_getD_getElem?]
      rw [List.filter_cons, List.filter_cons, hj]
      by_cases e : i = j
      · rw [if_pos e]; simp only [Bool.not_true, Bool.false_eq_true, if_false]
        split
        · rw [List.length_cons]; omega
        · exact ih
      · rw [if_neg e]
        split
        · rw [List.length_cons, List.length_cons]; omega
        · exact ih
  obtain ⟨l1, l2, hl⟩ := List.append_of_mem h1
  rw [hl, List.filter_append, List.filter_append, List.length_append, List.length_append, List.filter_cons, List.filter_cons]
  have hii : (listed.setIfInBounds i true).getD i true = true := by
    rw [Array.getD_eq_getD_getElem?, Array.getElem?_setIfInBounds, if_pos rfl, if_pos hs]; rfl
  rw [hii, h2.1]
  simp only [Bool.not_true, Bool.false_eq_true, if_false, Bool.not_false, if_true, List.length_cons]
  have := hsub l1
  have := hsub l2
  omega

theorem wpAny_inv (I : Array Bool → Act → World → Prop)
    (hstep : ∀ listed a w, I listed a w → ∀ i, i ∈ Region.ready .any ops listed → wpOp Tryz.prog ops Q i (I (listed.setIfInBounds i true)) a w)
    (hend : ∀ listed a w, I listed a w → Region.ready .any ops listed = [] → Q .normal a w) :
    ∀ (fuel : Nat) (listed : Array Bool) (a : Act) (w : World), leftOps ops listed ≤ fuel → I listed a w → wpAny Tryz.prog .any ops Q fuel listed a w
  | 0, listed, a, w, hf, hI => by
    have hr : Region.ready .any ops listed = [] := by
      unfold Region.ready
      rw [List.filter_eq_nil_iff]
      intro i hi
      have := List.eq_nil_of_length_eq_zero (Nat.le_zero.1 hf)
      rw [List.filter_eq_nil_iff] at this
      have := this i hi
      simp only [Bool.and_eq_true, not_and]
      intro h; exact absurd h this
    exact ⟨hr, hend listed a w hI hr⟩
  | fuel + 1, listed, a, w, hf, hI =>
    ⟨fun hr => hend listed a w hI hr, fun i hi => wpOp_mono (fun a' w' h => wpAny_inv I hstep hend fuel _ a' w' (by have := leftOps_step hi; omega) h) (hstep listed a w hI i hi)⟩

theorem wp_region_inv {id : Nat} {a : Act} {w : World} (I : Array Bool → Act → World → Prop) (h0 : I (Array.replicate ops.size false) a w.drew)
    (hstep : ∀ listed a w, I listed a w → ∀ i, i ∈ Region.ready .any ops listed → wpOp Tryz.prog ops Q i (I (listed.setIfInBounds i true)) a w)
    (hend : ∀ listed a w, I listed a w → Region.ready .any ops listed = [] → Q .normal a w) : (Code.region id ops true).wp Tryz.prog Q a w :=
  wp_region_any (by kernel_rfl) (wpAny_inv I hstep hend ops.size _ a _ (by unfold leftOps; exact Nat.le_trans (List.length_filter_le _ _) (by simp)) h0)

def acyB (l : List Oper) : Bool := (List.range l.length).all fun i => (((l[i]?).map fun o => o.after.all fun e => !Region.binds .any e || decide (e.on < i))).getD true

theorem all_listed {l : List Oper} {listed : Array Bool} (hac : acyB l = true) (hsz : listed.size = l.length) (hr : Region.ready .any l.toArray listed = []) : ∀ i, i < l.length → listed.getD i false = true := by
  intro i
  induction i using Nat.strongRecOn with
  | ind i ih =>
    intro hi
    cases hl : listed.getD i false with
    | true => rfl
    | false =>
      exfalso
      have hi2 : i < listed.size := by omega
      have hl2 : listed.getD i true = false := by
        rw [Array.getD_eq_getD_getElem?, Array.getElem?_eq_getElem hi2] at hl ⊢; exact hl
      have ho : l.toArray[i]? = some l[i] := by simp [hi]
      have hm : i ∈ Region.ready .any l.toArray listed := by
        refine List.mem_filter.2 ⟨by simpa using hi, ?_⟩
        rw [hl2, ho]
        simp only [Bool.not_false, Bool.true_and, Option.map_some, Option.getD_some, Array.all_eq_true']
        intro e he
        have h3 := List.all_eq_true.1 hac i (by simpa using hi)
        rw [List.getElem?_eq_getElem hi] at h3
        simp only [Option.map_some, Option.getD_some, Array.all_eq_true'] at h3
        have h4 := h3 e he
        cases hb : Region.binds .any e with
        | false => simp
        | true =>
          rw [hb] at h4
          simp at h4
          simp [ih e.on h4 (by omega)]
      rw [hr] at hm
      cases hm

/-- Each operation once, in whatever order: what its value is good for, and the parts of memory. -/
theorem wp_region_vals {id : Nat} {l : List Oper} {Q : Exit → Act → World → Prop} {w : World} (hac : acyB l = true) (fr : (Nat → Value) → Array Value) (u0 : Nat → Value) (P0 : Pm) (M : Mm) (hH : Hp w P0 M)
    (R : Nat → Pm → Value → Prop) (mono : ∀ i P P' v, Sub P P' → R i P v → R i P' v)
    (put : ∀ i o, l[i]? = some o → ∀ u v, (⟨fr u, []⟩ : Act).put o.dst v = ⟨fr (fun j => if j = i then v else u j), []⟩)
    (step : ∀ i o, l[i]? = some o → ∀ u w P, Sub P0 P → Hp w P M → (∀ e, e ∈ o.after → Region.binds .any e = true → R e.on P (u e.on)) →
      if Region.wanted o (yielded l.toArray (fr u)) then o.wp Tryz.prog ⟨fr u, []⟩ w (fun a' w' => ∃ v P', a' = (⟨fr u, []⟩ : Act).put o.dst v ∧ Sub P P' ∧ Hp w' P' M ∧ R i P' v) Q else R i P undef)
    (fin : ∀ u w P, Sub P0 P → Hp w P M → (∀ i, i < l.length → R i P (u i)) → Q .normal ⟨fr u, []⟩ w) : (Code.region id l.toArray true).wp Tryz.prog Q ⟨fr u0, []⟩ w := by
  refine wp_region_inv (fun listed a w => listed.size = l.length ∧ ∃ u P, a = ⟨fr u, []⟩ ∧ Sub P0 P ∧ Hp w P M ∧ ∀ i, listed.getD i false = true → R i P (u i)) ?_ ?_ ?_
  · refine ⟨by simp, u0, P0, rfl, Sub.refl _, hH.drew, fun i hi => ?_⟩
    have : (Array.replicate l.toArray.size false).getD i false = false := by
      rw [Array.getD_eq_getD_getElem?, Array.getElem?_replicate]; split <;> rfl
    rw [this] at hi; cases hi
  · rintro listed a w ⟨hsz, u, P, rfl, hs, hH', hR⟩ i hi
    obtain ⟨h1, h2⟩ := List.mem_filter.1 hi
    have hil : i < l.length := by simpa using h1
    have ho : l.toArray[i]? = some l[i] := by simp [hil]
    simp only [ho, Option.map_some, Option.getD_some, Bool.and_eq_true, Array.all_eq_true'] at h2
    have hst := step i l[i] (List.getElem?_eq_getElem hil) u w P hs hH' (fun e he hb => hR _ (by
      have := h2.2 e he
      simpa [hb] using this))
    have hset : ∀ v P', Sub P P' → R i P' v → ∀ j, (listed.setIfInBounds i true).getD j false = true → R j P' ((fun j => if j = i then v else u j) j) := by
      intro v P' hs' hv j hj
      by_cases e : j = i
      · subst e; simpa using hv
      · simp only [e, if_false]
        refine mono j P P' _ hs' (hR j ?_)
        rw [Array.getD_eq_getD_getElem?, Array.getElem?_setIfInBounds, if_neg (Ne.symm e)] at hj
        rw [Array.getD_eq_getD_getElem?]; exact hj
    unfold wpOp
    rw [ho]
    dsimp only
    split at hst
    · rename_i hw
      rw [if_pos hw]
      refine .inl (Oper.wp_mono (fun a' w' h => ?_) hst)
      obtain ⟨v, P', rfl, hs', hH'', hv⟩ := h
      refine ⟨by simpa using hsz, _, P', put i _ (List.getElem?_eq_getElem hil) u v, hs.trans hs', hH'', hset v P' hs' hv⟩
    · rename_i hw
      rw [if_neg hw]
      exact ⟨by simpa using hsz, _, P, put i _ (List.getElem?_eq_getElem hil) u undef, hs, hH', hset undef P (Sub.refl P) hst⟩
  · rintro listed a w ⟨hsz, u, P, rfl, hs, hH', hR⟩ hr
    have hall := all_listed hac hsz hr
    exact fin u w P hs hH' (fun i hi => hR i (hall i hi))
end

theorem Hp.weaken {w : World} {P P' : Pm} {M : Mm} (h : Hp w P' M) (s : Sub P P') : Hp w P M :=
  ⟨h.agr.sub s, h.own, h.nodup, fun x hx => by
    cases hp : P.m x.1 with
    | none => rfl
    | some o => have := s.m _ _ hp; rw [h.apart x hx] at this; cases this⟩

/-! ### the frame -/
def frOf : List Oper → Nat → (Nat → Value) → Array Value → Array Value
  | [], _, _, t => t
  | o :: l, i, u, t => frOf l (i + 1) u (match o.dst with | some d => t.setIfInBounds d (u i) | none => t)
theorem frOf_set (l : List Oper) : ∀ (k : Nat) (u : Nat → Value) (t : Array Value) (d : Nat) (v : Value), d ∉ l.filterMap (·.dst) → (frOf l k u t).setIfInBounds d v = frOf l k u (t.setIfInBounds d v) := by
  induction l with
  | nil => intro k u t d v _; rfl
  | cons o l ih =>
    intro k u t d v hd
    unfold frOf
    cases ho : o.dst with
    | none =>
      rw [List.filterMap_cons_none ho] at hd
      exact ih _ _ _ _ _ hd
    | some d' =>
      rw [List.filterMap_cons_some ho] at hd
      rw [ih _ _ _ _ _ (fun h => hd (List.mem_cons_of_mem _ h))]
      dsimp only
      rw [Array.setIfInBounds_comm _ _ (fun e => hd (by rw [e]; exact List.mem_cons_self ..))]
theorem frOf_congr (l : List Oper) : ∀ (k : Nat) (u u' : Nat → Value) (t : Array Value), (∀ i, k ≤ i → u i = u' i) → frOf l k u t = frOf l k u' t := by
  induction l with
  | nil => intro k u u' t _; rfl
  | cons o l ih =>
    intro k u u' t h
    unfold frOf
    rw [h k (Nat.le_refl _)]
    exact ih _ _ _ _ (fun i hi => h i (by omega))
theorem frOf_put (l : List Oper) : ∀ (k i : Nat) (o : Oper) (u : Nat → Value) (t : Array Value) (v : Value), (l.filterMap (·.dst)).Nodup → k ≤ i → l[i - k]? = some o →
    (⟨frOf l k u t, []⟩ : Act).put o.dst v = ⟨frOf l k (fun j => if j = i then v else u j) t, []⟩ := by
  induction l with
  | nil => intro k i o u t v _ _ h; simp at h
  | cons p l ih =>
    intro k i o u t v hnd hk ho
    by_cases e : i = k
    · subst e
      rw [Nat.sub_self] at ho
      simp at ho
      subst ho
      unfold frOf
      have hc : ∀ t', frOf l (i + 1) (fun j => if j = i then v else u j) t' = frOf l (i + 1) u t' := fun t' => frOf_congr l _ _ _ _ (fun j hj => if_neg (by omega))
      rw [hc]
      cases hd : p.dst with
      | none => rfl
      | some d =>
        rw [List.filterMap_cons_some hd, List.nodup_cons] at hnd
        simp only [Act.put, if_true]
        rw [frOf_set l _ _ _ _ _ hnd.1, Array.setIfInBounds_setIfInBounds]
    · have hk' : k + 1 ≤ i := by omega
      have ho' : l[i - (k + 1)]? = some o := by
        rw [show i - k = (i - (k + 1)) + 1 from by omega] at ho
        simpa using ho
      have hnd' : (l.filterMap (·.dst)).Nodup := by
        cases hd : p.dst with
        | none => rw [List.filterMap_cons_none hd] at hnd; exact hnd
        | some d => rw [List.filterMap_cons_some hd, List.nodup_cons] at hnd; exact hnd.2
      have := ih (k + 1) i o u (match p.dst with | some d => t.setIfInBounds d (u k) | none => t) v hnd' hk' ho'
      unfold frOf
      rw [this]
      have hk2 : (fun j => if j = i then v else u j) k = u k := if_neg (Ne.symm e)
      rw [hk2]
theorem frOf_same (l : List Oper) : ∀ (k : Nat) (u : Nat → Value) (t : Array Value), (∀ i o d, l[i]? = some o → o.dst = some d → t[d]? = some (u (k + i)) ∨ t[d]? = none) → frOf l k u t = t := by
  induction l with
  | nil => intro k u t _; rfl
  | cons o l ih =>
    intro k u t h
    unfold frOf
    have h1 : (match o.dst with | some d => t.setIfInBounds d (u k) | none => t) = t := by
      cases hd : o.dst with
      | none => rfl
      | some d =>
        dsimp only
        apply Array.ext_getElem?
        intro j
        rw [Array.getElem?_setIfInBounds]
        split
        · rename_i e; subst e
          rcases h 0 o d (by simp) hd with h2 | h2
          · rw [h2]; rw [if_pos (Array.getElem?_eq_some_iff.1 h2).1]; rfl
          · have := Array.getElem?_eq_none_iff.1 h2; rw [if_neg (by omega), h2]
        · rfl
    rw [h1]
    exact ih (k + 1) u t (fun i o' d ho hd => by
      have := h (i + 1) o' d (by simpa using ho) hd
      rwa [show k + (i + 1) = k + 1 + i from by omega] at this)

/-- The rule: each operation once. -/
theorem wp_region_hp {id : Nat} {l : List Oper} {Q : Exit → Act → World → Prop} {t : Array Value} {w : World} (hac : acyB l = true) (hnd : (l.filterMap (·.dst)).Nodup) (P0 : Pm) (M : Mm) (hH : Hp w P0 M)
    (R : Nat → Pm → Value → Prop) (mono : ∀ i P P' v, Sub P P' → R i P v → R i P' v)
    (step : ∀ i o, l[i]? = some o → ∀ u w P, Sub P0 P → Hp w P M → (∀ e, e ∈ o.after → Region.binds .any e = true → R e.on P (u e.on)) →
      ∀ K : Act → World → Prop, (∀ v w' P', Sub P P' → Hp w' P' M → R i P' v → K ((⟨frOf l 0 u t, []⟩ : Act).put o.dst v) w') →
      if Region.wanted o (yielded l.toArray (frOf l 0 u t)) then o.wp Tryz.prog ⟨frOf l 0 u t, []⟩ w K Q else R i P undef)
    (fin : ∀ u w P, Sub P0 P → Hp w P M → (∀ i, i < l.length → R i P (u i)) → Q .normal ⟨frOf l 0 u t, []⟩ w) : (Code.region id l.toArray true).wp Tryz.prog Q ⟨t, []⟩ w := by
  have h0 : (⟨t, []⟩ : Act) = ⟨frOf l 0 (fun i => (((l[i]?).bind (·.dst)).bind (t[·]?)).getD undef) t, []⟩ := by
    rw [frOf_same]
    intro i o d ho hd
    cases ht : t[d]? with
    | none => exact .inr rfl
    | some v => left; rw [Nat.zero_add, ho]; simp [hd, ht]
  rw [h0]
  refine wp_region_vals hac (fun u => frOf l 0 u t) _ P0 M hH R mono (fun i o ho u v => frOf_put l 0 i o u t v hnd (Nat.zero_le _) (by simpa using ho)) (fun i o ho u w P hs hH' hp => ?_) fin
  exact step i o ho u w P hs hH' hp _ (fun v w' P' h1 h2 h3 => ⟨v, P', rfl, h1, h2, h3⟩)

/-! ### with two operations that write -/
/-- Does operation k wait, by whatever road, for operation i? -/
def reachB (l : List Oper) : Nat → Nat → Nat → Bool
  | 0, _, _ => false
  | f + 1, k, i => match l[k]? with | some o => o.after.any (fun e => Region.binds .any e && (e.on == i || reachB l f e.on i)) | none => false
def Closed (l : List Oper) (listed : Array Bool) : Prop := ∀ i o, l[i]? = some o → listed.getD i false = true → ∀ e, e ∈ o.after → Region.binds .any e = true → listed.getD e.on false = true
theorem Closed.reach {l : List Oper} {listed : Array Bool} (h : Closed l listed) : ∀ (f k i : Nat), listed.getD k false = true → reachB l f k i = true → listed.getD i false = true
  | 0, _, _, _, h2 => by cases h2
  | f + 1, k, i, hk, h2 => by
    unfold reachB at h2
    cases ho : l[k]? with
    | none => rw [ho] at h2; cases h2
    | some o =>
      rw [ho] at h2
      obtain ⟨e, he, h3⟩ := Array.any_eq_true'.1 h2
      simp only [Bool.and_eq_true, Bool.or_eq_true, beq_iff_eq] at h3
      have h4 := h k o ho hk e he h3.1
      rcases h3.2 with h5 | h5
      · rw [← h5]; exact h4
      · exact h.reach f e.on i h4 h5

def phaseOf (k1 k2 : Nat) (listed : Array Bool) : Nat := if listed.getD k2 false then 2 else if listed.getD k1 false then 1 else 0

theorem getD_set (listed : Array Bool) (i j : Nat) (hi : i < listed.size) : (listed.setIfInBounds i true).getD j false = if j = i then true else listed.getD j false := by
  rw [Array.getD_eq_getD_getElem?, Array.getElem?_setIfInBounds]
  by_cases e : i = j
  · subst e; simp [hi]
  · rw [if_neg e, if_neg (Ne.symm e), Array.getD_eq_getD_getElem?]

theorem wp_region_ph {id : Nat} {l : List Oper} {Q : Exit → Act → World → Prop} {t : Array Value} {w : World} (hac : acyB l = true) (hnd : (l.filterMap (·.dst)).Nodup) (k1 k2 : Nat) (hk12 : reachB l l.length k2 k1 = true) (hkn : k1 < l.length ∧ k2 < l.length) (hne : k1 ≠ k2) (P0 : Pm)
    (J : Nat → Pm → World → Value → Prop) (hJ : ∀ v, J 0 P0 w.drew v)
    (R : Nat → Pm → Value → Prop) (mono : ∀ i P P' v, Sub P P' → R i P v → R i P' v)
    (step : ∀ i o, l[i]? = some o → ∀ b u w P, Sub P0 P → J b P w (u k1) → (∀ e, e ∈ o.after → Region.binds .any e = true → R e.on P (u e.on)) →
      (0 < b → reachB l l.length k1 i = false ∧ i ≠ k1) → (b = 2 → reachB l l.length k2 i = false ∧ i ≠ k2) → (reachB l l.length i k1 = true → 0 < b) → b ≤ 2 →
      ∀ K : Act → World → Prop, (∀ v w' P', Sub P P' → J (if i = k1 then 1 else if i = k2 then 2 else b) P' w' (if i = k1 then v else u k1) → R i P' v → K ((⟨frOf l 0 u t, []⟩ : Act).put o.dst v) w') →
      if Region.wanted o (yielded l.toArray (frOf l 0 u t)) then o.wp Tryz.prog ⟨frOf l 0 u t, []⟩ w K Q else i ≠ k1 ∧ i ≠ k2 ∧ R i P undef)
    (fin : ∀ u w P, Sub P0 P → J 2 P w (u k1) → (∀ i, i < l.length → R i P (u i)) → Q .normal ⟨frOf l 0 u t, []⟩ w) : (Code.region id l.toArray true).wp Tryz.prog Q ⟨t, []⟩ w := by
  have h0 : (⟨t, []⟩ : Act) = ⟨frOf l 0 (fun i => (((l[i]?).bind (·.dst)).bind (t[·]?)).getD undef) t, []⟩ := by
    rw [frOf_same]
    intro i o d ho hd
    cases ht : t[d]? with
    | none => exact .inr rfl
    | some v => left; rw [Nat.zero_add, ho]; simp [hd, ht]
  rw [h0]
  have hrep : ∀ i, (Array.replicate l.toArray.size false).getD i false = false := fun i => by
    rw [Array.getD_eq_getD_getElem?, Array.getElem?_replicate]; split <;> rfl
  refine wp_region_inv (fun listed a w => listed.size = l.length ∧ Closed l listed ∧ ∃ u P, a = ⟨frOf l 0 u t, []⟩ ∧ Sub P0 P ∧ J (phaseOf k1 k2 listed) P w (u k1) ∧ ∀ i, listed.getD i false = true → R i P (u i)) ?_ ?_ ?_
  · refine ⟨by simp, fun i o _ hi => (by rw [hrep] at hi; cases hi), _, P0, rfl, Sub.refl _, ?_, fun i hi => (by rw [hrep] at hi; cases hi)⟩
    unfold phaseOf
    rw [hrep, hrep]
    exact hJ _
  · rintro listed a w ⟨hsz, hcl, u, P, rfl, hs, hJ', hR⟩ i hi
    obtain ⟨h1, h2⟩ := List.mem_filter.1 hi
    have hil : i < l.length := by simpa using h1
    have ho : l.toArray[i]? = some l[i] := by simp [hil]
    have ho' : l[i]? = some l[i] := List.getElem?_eq_getElem hil
    simp only [ho, Option.map_some, Option.getD_some, Bool.and_eq_true, Array.all_eq_true', Bool.not_eq_true'] at h2
    have his : i < listed.size := by omega
    have hif : listed.getD i false = false := by
      have := h2.1
      rw [Array.getD_eq_getD_getElem?, Array.getElem?_eq_getElem his] at this ⊢
      exact this
    have hpre : ∀ e, e ∈ l[i].after → Region.binds .any e = true → listed.getD e.on false = true := fun e he hb => by
      have := h2.2 e he
      simpa [hb] using this
    have hb1 : 0 < phaseOf k1 k2 listed → listed.getD k1 false = true := by
      unfold phaseOf
      intro h
      split at h
      · rename_i h3; exact hcl.reach _ _ _ h3 hk12
      · split at h
        · assumption
        · omega
    have hb2 : phaseOf k1 k2 listed = 2 → listed.getD k2 false = true := by
      unfold phaseOf
      intro h
      split at h
      · assumption
      · split at h <;> omega
    have hst := step i l[i] ho' (phaseOf k1 k2 listed) u w P hs hJ' (fun e he hb => hR _ (hpre e he hb))
      (fun h => ⟨(by
        cases hr : reachB l l.length k1 i with
        | false => rfl
        | true => have := hcl.reach _ _ _ (hb1 h) hr; rw [hif] at this; cases this), (fun e => by rw [e, hb1 h] at hif; cases hif)⟩)
      (fun h => ⟨(by
        cases hr : reachB l l.length k2 i with
        | false => rfl
        | true => have := hcl.reach _ _ _ (hb2 h) hr; rw [hif] at this; cases this), (fun e => by rw [e, hb2 h] at hif; cases hif)⟩)
      (fun h => by
        have hk : listed.getD k1 false = true := by
          obtain ⟨f, hf⟩ : ∃ f, l.length = f + 1 := ⟨l.length - 1, by omega⟩
          rw [hf] at h
          unfold reachB at h
          rw [ho'] at h
          obtain ⟨e, he, h3⟩ := Array.any_eq_true'.1 h
          simp only [Bool.and_eq_true, Bool.or_eq_true, beq_iff_eq] at h3
          have h4 := hpre e he h3.1
          rcases h3.2 with h5 | h5
          · rw [← h5]; exact h4
          · exact hcl.reach f e.on k1 h4 h5
        unfold phaseOf
        rw [hk]
        split <;> simp)
      (by unfold phaseOf; split; omega; split <;> omega)
    have hclo : Closed l (listed.setIfInBounds i true) := fun j o hj hl e he hb => by
      rw [getD_set _ _ _ his] at hl ⊢
      by_cases e1 : e.on = i
      · rw [if_pos e1]
      · rw [if_neg e1]
        by_cases e2 : j = i
        · subst e2
          rw [ho'] at hj
          cases hj
          exact hpre e he hb
        · rw [if_neg e2] at hl
          exact hcl j o hj hl e he hb
    have hset : ∀ v P', Sub P P' → R i P' v → ∀ j, (listed.setIfInBounds i true).getD j false = true → R j P' ((fun j => if j = i then v else u j) j) := by
      intro v P' hs' hv j hj
      rw [getD_set _ _ _ his] at hj
      by_cases e : j = i
      · subst e; simpa using hv
      · simp only [e, if_false] at hj ⊢
        exact mono j P P' _ hs' (hR j hj)
    have hphase : ∀ v P' w', J (if i = k1 then 1 else if i = k2 then 2 else phaseOf k1 k2 listed) P' w' (if i = k1 then v else u k1) → J (phaseOf k1 k2 (listed.setIfInBounds i true)) P' w' ((fun j => if j = i then v else u j) k1) := by
      intro v P' w' h
      have e1 : phaseOf k1 k2 (listed.setIfInBounds i true) = (if i = k1 then 1 else if i = k2 then 2 else phaseOf k1 k2 listed) := by
        unfold phaseOf
        rw [getD_set _ _ _ his, getD_set _ _ _ his]
        by_cases e1 : i = k1
        · subst e1
          have hk2 : listed.getD k2 false = false := by
            cases hk2 : listed.getD k2 false with
            | false => rfl
            | true => have := hcl.reach _ _ _ hk2 hk12; rw [hif] at this; cases this
          rw [if_neg (Ne.symm hne), hk2]; simp
        · by_cases e2 : i = k2
          · subst e2; simp [e1]
          · rw [if_neg e1, if_neg e2, if_neg (Ne.symm e2), if_neg (Ne.symm e1)]
      rw [e1]
      by_cases e2 : i = k1
      · rw [if_pos e2] at h ⊢
        subst e2
        simpa using h
      · rw [if_neg e2] at h ⊢
        rw [if_neg e2] at h
        simpa [Ne.symm e2] using h
    unfold wpOp
    rw [ho]
    dsimp only
    by_cases hw : Region.wanted l[i] (yielded l.toArray (frOf l 0 u t)) = true
    · rw [if_pos hw]
      have hst' := hst (fun a' w' => (listed.setIfInBounds i true).size = l.length ∧ Closed l (listed.setIfInBounds i true) ∧ ∃ u P, a' = ⟨frOf l 0 u t, []⟩ ∧ Sub P0 P ∧ J (phaseOf k1 k2 (listed.setIfInBounds i true)) P w' (u k1) ∧ ∀ j, (listed.setIfInBounds i true).getD j false = true → R j P (u j))
        (fun v w' P' h3 h4 h5 => ⟨by simpa using hsz, hclo, _, P', frOf_put l 0 i _ u t v hnd (Nat.zero_le _) (by simp), hs.trans h3, hphase v P' w' h4, hset v P' h3 h5⟩)
      rw [if_pos hw] at hst'
      exact .inl hst'
    · rw [if_neg hw]
      have hst' := hst (fun _ _ => True) (fun _ _ _ _ _ _ => trivial)
      rw [if_neg hw] at hst'
      obtain ⟨n1, n2, hr⟩ := hst'
      refine ⟨by simpa using hsz, hclo, _, P, frOf_put l 0 i _ u t undef hnd (Nat.zero_le _) (by simp), hs, hphase undef P w ?_, hset undef P (Sub.refl P) hr⟩
      rw [if_neg n1, if_neg n2, if_neg n1]
      exact hJ'
  · rintro listed a w ⟨hsz, hcl, u, P, rfl, hs, hJ', hR⟩ hr
    have hall := all_listed hac hsz hr
    refine fin u w P hs ?_ (fun i hi => hR i (hall i hi))
    unfold phaseOf at hJ'
    rw [hall k2 hkn.2] at hJ'
    exact hJ'

end Go.Proofs.YtncjffkpkmjgkaaGreatDoor.Sg

/-! Rh -/
namespace Go.Proofs.YtncjffkpkmjgkaaGreatDoor.Sg
open Go.RowKit Er

theorem step_push2 {w : World} {P : Pm} {A F : Mm} {o : Oper} {a : Act} {Q : Exit → Act → World → Prop} {ops : Array Oper} {K : Act → World → Prop} {E : Prop} (hgd : o.guard = none) (s x : Operand) (t : TypeId) (ho : o.op = .call { callee := .builtin .append, args := #[s, x], argTypes := #[t, t] })
    (e : TypeId) (z : Value) (size bytes : Nat) (ht : Tryz.prog.underlying t = some (.slice e)) (hinfo : (Tryz.prog.info? e).map (fun i => (i.zero, i.size, i.bytes)) = some (some z, size, bytes)) (hzs : z.cells.size = size) (hsz : 0 < size)
    (v : Value) (n : Nat) (xs : List Value) (hs : a.eval s = v) (hH : Hp w P (A ++ F)) (hr : RowM e size v n xs A) (b : Nat) (news : Array Value) (hx : a.eval x = .slice (some ⟨b, 0, none⟩) 1 1) (hb : P.m b = some (.cells news e (0, 0))) (hl : news.size = size)
    (h1 : ∀ u ∈ news, u.oneCell' = true) (hn : n ≤ 1000000000) (hby : bytes ≤ 10000)
    (h : ∀ g cap w' A', RowM e size (.slice (some ⟨g, 0, none⟩) (n + 1) cap) (n + 1) (xs ++ news.toList) A' → Hp w' P (A' ++ F) → K (a.put o.dst (.slice (some ⟨g, 0, none⟩) (n + 1) cap)) w') :
    if Region.wanted o (yielded ops a.tmps) = true then Oper.wp Tryz.prog o a w K Q else E := by
  obtain ⟨i0, hi, hz0, hz1, hz2⟩ := info_parts hinfo
  have hbb : (n + 1) * bytes ≤ 140737488355328 := Nat.le_trans (Nat.mul_le_mul (show n + 1 ≤ 1000000001 by omega) hby) (by omega)
  refine step_append_lies (w := w) hgd s x t ho 0 e i0 z size bytes ht hi hz0 hz1 hz2 hzs hsz v n xs hs (hr.owns hH) ⟨b, 0, none⟩ 1 1 news.toList hx (by simp [hl])
    (World.news_of_block (cs := news) (t := e) (fr := (0, 0)) (hH.agr.m _ _ hb)) (by simpa using h1) (by omega) (by unfold maxLen; omega) hbb (Nat.zero_le _) w.heap.size rfl ?_
  intro g cap w' hown hg hat _
  obtain ⟨A', hr', hH'⟩ := hH.rowGrown hr hg hown (by
    rcases hat with e1 | e1
    · exact .inl e1.symm
    · exact .inr ⟨w.heap.size, by rw [e1]; rfl, Nat.le_refl _⟩)
  exact h g cap w' A' hr' hH'

theorem ph0 {b : Nat} (h : ¬ 0 < b) : b = 0 := by omega
theorem ph1 {b : Nat} (h0 : 0 < b) (h2 : b ≠ 2) (h : b ≤ 2) : b = 1 := by omega

/-- A new block is laid by for good. -/
theorem Hp.lay {w : World} {P : Pm} {M : Mm} (h : Hp w P M) (o : Obj) : ∃ P', Sub P P' ∧ Hp (w.alloc o) P' M ∧ P'.m w.heap.size = some o := by
  obtain ⟨h1, h2⟩ := Hp.seal (h.alloc o)
  exact ⟨_, h1, h2, by simp [Pm.ins]⟩

end Go.Proofs.YtncjffkpkmjgkaaGreatDoor.Sg
