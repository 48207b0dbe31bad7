/- A disk whose power may go at a call: what it is but for that. A disk at which the power may go: what its calls tell. A segment on a disk at which the power may go: Sync, Remove, Append, Create. Where a segment of a log begins: seg.Begins; slices.ContainsFunc of batches, of segments. seg.Cut. Segments that are let be none, and a cut, in plain words. disk.picked; slices.Contains of nothing, slices.SortFunc of one; seg.Cut of an empty segment. seg.Cut of an empty segment, at its end. Log.CutEnd, also when the power goes. -/
import Derived.Test.YtncjffkpkmjgkaaGreatDoorMc
import Derived.Test.YtncjffkpkmjgkaaGreatDoorMg
import Derived.Test.YtncjffkpkmjgkaaGreatDoorMi
import Derived.Test.YtncjffkpkmjgkaaGreatDoorMk
import Derived.Test.YtncjffkpkmjgkaaGreatDoorMl

/-! Ka -/
namespace Go.Proofs.YtncjffkpkmjgkaaGreatDoor.Sg
open Go.RowKit Er Go.Maps

def Dk.un (D : Dk) : Dk := { D with arm := 0, down := false }
/-- The power is on. -/
structure PowOn (D D' : Dk) : Prop where
  down : D'.down = false
  arm : D'.arm ≤ D.arm
/-- The power is gone, which it could. -/
structure PowOff (D D' : Dk) : Prop where
  down : D'.down = true
  was : ¬ (D.arm = 0 ∧ D.down = false)

theorem PowOn.trans {D D' D'' : Dk} (h : PowOn D D') (k : PowOn D' D'') : PowOn D D'' := ⟨k.down, Nat.le_trans k.arm h.arm⟩
theorem PowOff.after {D D' D'' : Dk} (h : PowOn D D') (k : PowOff D' D'') : PowOff D D'' := ⟨k.down, fun hh => k.was ⟨by have := h.arm; omega, h.down⟩⟩
theorem PowOn.refl {D : Dk} (h : D.down = false) : PowOn D D := ⟨h, Nat.le_refl _⟩

theorem un_of {D : Dk} (h1 : D.arm = 0) (h2 : D.down = false) : D.un = D := by
  cases D
  dsimp only at h1 h2
  subst h1 h2
  rfl
theorem un_un (D : Dk) : D.un.un = D.un := rfl
theorem un_look (D : Dk) (s : Nam) : D.un.look s = D.look s := rfl
theorem un_used (D : Dk) : D.un.used = D.used := rfl
theorem un_beg (D : Dk) : D.un.beg = D.un := by simp [Dk.beg, Dk.un]
theorem un_ok (D : Dk) : D.un.ok = true := rfl
theorem beg_un (D : Dk) : D.beg.un = D.un := by
  unfold Dk.beg
  split
  · rfl
  · split
    · rfl
    · split <;> rfl
theorem beg_on {D : Dk} (h : D.ok = true) : PowOn D D.beg := by
  simp only [Dk.ok, Bool.and_eq_true, Bool.not_eq_true', bne_iff_ne, ne_eq] at h
  unfold Dk.beg
  rw [if_neg (by simp [h.1])]
  split
  · exact ⟨h.1, Nat.le_refl _⟩
  · rw [if_neg h.2]
    exact ⟨h.1, Nat.sub_le _ _⟩
theorem beg_off {D : Dk} (h : D.ok = false) : PowOff D D.beg := by
  have hw : ¬ (D.arm = 0 ∧ D.down = false) := by
    rintro ⟨h1, h2⟩
    simp [Dk.ok, h1, h2] at h
  refine ⟨?_, hw⟩
  unfold Dk.beg
  split
  · assumption
  · rename_i hd
    have hd' : D.down = false := by simpa using hd
    have h1 : D.arm = 1 := by simpa [Dk.ok, hd'] using h
    rw [if_neg (by omega), if_pos h1]
theorem PowOn.ok0 {D : Dk} (h1 : D.arm = 0) (h2 : D.down = false) : D.ok = true := by simp [Dk.ok, h1, h2]
theorem down_of_ok {D : Dk} (h : D.ok = true) : D.down = false := by
  simp only [Dk.ok, Bool.and_eq_true, Bool.not_eq_true'] at h
  exact h.1

theorem withF_un (D : Dk) (g : Fl) (c : Int) : (D.beg.withF g c).un = D.un.withF g c := by
  have h1 := beg_un D
  show ({ D.beg with fl := fset D.beg.fl g, calls := c } : Dk).un = _
  unfold Dk.un Dk.withF at *
  simp only [Dk.mk.injEq] at h1 ⊢
  obtain ⟨a1, a2, a3, a4, a5, a6, -⟩ := h1
  refine ⟨a1, a2, a3, a4, by rw [a5], a6, ?_, ?_⟩ <;> first | trivial | exact ⟨rfl, rfl⟩
theorem app_un (D : Dk) (f : Fl) (xs : List Nat) : (D.app f xs).un = D.un.app f xs := by unfold Dk.app; rw [withF_un, un_beg]; rfl
theorem sync_un (D : Dk) (f : Fl) : (D.sync f).un = D.un.sync f := by unfold Dk.sync; rw [withF_un, un_beg]; rfl
theorem cut_un (D : Dk) (f : Fl) (n : Nat) : (D.cut f n).un = D.un.cut f n := by unfold Dk.cut; rw [withF_un, un_beg]; rfl
theorem sdir_un (D : Dk) : D.sdir.un = D.un.sdir := by
  have h1 := beg_un D
  unfold Dk.sdir
  rw [un_beg]
  unfold Dk.un at *
  simp only [Dk.mk.injEq] at h1 ⊢
  obtain ⟨a1, a2, a3, a4, a5, a6, -⟩ := h1
  simp [a1, a2, a5, a6]
theorem create_un (D : Dk) (s : Nam) (b : Nat) : (D.create s b).un = D.un.create s b := by
  have h1 := beg_un D
  have h2 := beg_fl D
  unfold Dk.create Dk.change
  rw [un_beg]
  unfold Dk.un at *
  simp only [Dk.mk.injEq] at h1 ⊢
  obtain ⟨a1, a2, a3, a4, a5, a6, -⟩ := h1
  simp [a1, a2, a3, a4, h2.2.2.2.2.2.2]

theorem app_on {D : Dk} (h : D.ok = true) (f : Fl) (xs : List Nat) : PowOn D (D.app f xs) := ⟨(beg_on h).down, (beg_on h).arm⟩
theorem sync_on {D : Dk} (h : D.ok = true) (f : Fl) : PowOn D (D.sync f) := ⟨(beg_on h).down, (beg_on h).arm⟩
theorem cut_on {D : Dk} (h : D.ok = true) (f : Fl) (n : Nat) : PowOn D (D.cut f n) := ⟨(beg_on h).down, (beg_on h).arm⟩
theorem sdir_on {D : Dk} (h : D.ok = true) : PowOn D D.sdir := ⟨(beg_on h).down, (beg_on h).arm⟩
theorem create_on {D : Dk} (h : D.ok = true) (s : Nam) (b : Nat) : PowOn D (D.create s b) := ⟨(beg_on h).down, (beg_on h).arm⟩

/-- A file that is there is found, while the power is on. -/
theorem find_on {D : Dk} (h : D.ok = true) {s : Nam} {f : Fl} (hl : D.look s = some f) : D.find s = .ok f.blk := by
  unfold Dk.find Dk.file
  rw [if_pos h, if_neg (by simp [(beg_on h).down]), (beg_fl D).2.1, (look_some hl).1]
theorem find_off {D : Dk} (h : D.ok = false) (s : Nam) : D.find s = .error 110 := by
  unfold Dk.find
  rw [if_neg (by simp [h])]
theorem file_on {D : Dk} (h : D.down = false) {s : Nam} {f : Fl} (hl : D.look s = some f) : D.file s = .ok f.blk := by
  unfold Dk.file
  rw [if_neg (by simp [h]), (look_some hl).1]
theorem find_gone {D : Dk} (h : D.ok = true) (hW : DkW D) {s : Nam} (hl : D.look s = none) : D.find s = .error 107 := by
  unfold Dk.find Dk.file
  rw [if_pos h, if_neg (by simp [(beg_on h).down]), (beg_fl D).2.1, look_none hW hl]
theorem un_W {D : Dk} (h : DkW D.un) : DkW D := ⟨h.nm, h.kp, h.ch⟩

/-! ### a file that is let be none -/
def Dk.remove (D : Dk) (s : Nam) : Dk := Dk.change D.beg ⟨[], s, none⟩
theorem remove_un (D : Dk) (s : Nam) : (D.remove s).un = D.un.remove s := by
  have h1 := beg_un D
  unfold Dk.remove Dk.change
  rw [un_beg]
  unfold Dk.un at *
  simp only [Dk.mk.injEq] at h1 ⊢
  obtain ⟨a1, a2, a3, a4, a5, a6, -⟩ := h1
  simp [a1, a2, a3, a4, a5, a6, (beg_fl D).2.2.2.2.2.2]
theorem remove_on {D : Dk} (h : D.ok = true) (s : Nam) : PowOn D (D.remove s) := ⟨(beg_on h).down, (beg_on h).arm⟩
theorem remove_nm {D : Dk} (s : Nam) (hs : s ≠ []) : (D.remove s).nm = ndel D.nm s := by
  show chg D.beg.nm ⟨[], s, none⟩ = _
  rw [(beg_fl D).2.1]
  unfold chg
  simp [hs]
theorem ndel_mem {m : List (Nam × Nat)} {s : Nam} {p : Nam × Nat} : p ∈ ndel m s ↔ p ∈ m ∧ p.1 ≠ s := by
  unfold ndel
  rw [List.mem_filter]
  simp
theorem ndel_find (m : List (Nam × Nat)) (s s' : Nam) : nfind (ndel m s) s' = if s' = s then none else nfind m s' := by
  unfold nfind ndel
  induction m with
  | nil => simp
  | cons p l ih =>
    by_cases h1 : p.1 = s
    · rw [List.filter_cons_of_neg (by simp [h1]), ih]
      split
      · rfl
      · rename_i h2
        rw [List.find?_cons_of_neg]
        simp only [beq_iff_eq]
        intro h3
        exact h2 (h3 ▸ h1)
    · rw [List.filter_cons_of_pos (by simp [h1])]
      by_cases h3 : p.1 = s'
      · rw [List.find?_cons_of_pos (by simp [h3]), List.find?_cons_of_pos (by simp [h3]), if_neg (fun e => h1 (h3.trans e))]
      · rw [List.find?_cons_of_neg (by simpa using h3), List.find?_cons_of_neg (by simpa using h3), ih]
theorem remove_I {D : Dk} (hI : DkI D) {s : Nam} (hs : s ≠ []) : DkI (D.remove s) := by
  have hnm := remove_nm (D := D) s hs
  have hb := hI.beg
  refine ⟨⟨fun p hp => ?_, fun p hp => ?_, fun c hc b hb' => ?_⟩, ?_, ?_, ?_, ?_⟩
  · rw [hnm] at hp
    have := hI.w.nm p (ndel_mem.1 hp).1
    show ∃ f, ffind D.beg.fl p.2 = some f
    rw [hb]; exact this
  · have hp' : p ∈ D.beg.kp := hp
    rw [hb] at hp'
    show ∃ f, ffind D.beg.fl p.2 = some f
    rw [hb]; exact hI.w.kp p hp'
  · have hc' : c ∈ D.beg.ch ++ [⟨[], s, none⟩] := hc
    rw [hb] at hc'
    show ∃ f, ffind D.beg.fl b = some f
    rw [hb]
    rcases List.mem_append.1 hc' with h | h
    · exact hI.w.ch c h b hb'
    · rw [List.mem_singleton.1 h] at hb'; cases hb'
  · rw [hnm]; exact hI.nd.sublist (List.Sublist.map _ List.filter_sublist)
  · rw [hnm]; exact hI.inj.sublist (List.Sublist.map _ List.filter_sublist)
  · show D.beg.arm = 0; rw [hb]; exact hI.arm
  · show D.beg.down = false; rw [hb]; exact hI.down
theorem remove_look {D : Dk} {s : Nam} (hs : s ≠ []) (s' : Nam) : (D.remove s).look s' = if s' = s then none else D.look s' := by
  unfold Dk.look
  rw [remove_nm s hs, ndel_find]
  have : (D.remove s).fl = D.fl := (beg_fl D).1
  rw [this]
  split <;> rfl
theorem remove_used {D : Dk} {s : Nam} (hs : s ≠ []) : (D.remove s).used ≤ D.used := by
  unfold Dk.used
  rw [remove_nm s hs]
  have : (D.remove s).fl = D.fl := (beg_fl D).1
  rw [this]
  unfold allSum ndel
  generalize D.nm = m
  induction m with
  | nil => exact Nat.le_refl _
  | cons p l ih =>
    rw [List.filter_cons]
    split
    · rw [List.map_cons, List.map_cons, List.sum_cons, List.sum_cons]; omega
    · rw [List.map_cons, List.sum_cons]; omega
theorem remove_len {D : Dk} (hI : DkI D) {s : Nam} (hs : s ≠ []) {f : Fl} (hl : D.look s = some f) : (D.remove s).nm.length + 1 = D.nm.length := by
  rw [remove_nm s hs]
  have h1 := nfind_mem (look_some hl).1
  have hnd := hI.nd
  unfold ndel
  generalize D.nm = m at h1 hnd
  induction m with
  | nil => cases h1
  | cons p l ih =>
    rw [List.map_cons, List.nodup_cons] at hnd
    by_cases e : p.1 = s
    · rw [List.filter_cons_of_neg (by simp [e])]
      have : l.filter (fun p => !(p.1 == s)) = l := by
        rw [List.filter_eq_self]
        intro q hq
        simp only [Bool.not_eq_true', beq_eq_false_iff_ne, ne_eq]
        intro e2
        exact hnd.1 (List.mem_map.2 ⟨q, hq, e2.trans e.symm⟩)
      rw [this, List.length_cons]
    · rw [List.filter_cons_of_pos (by simp [e]), List.length_cons, List.length_cons]
      rcases List.mem_cons.1 h1 with rfl | h1
      · exact absurd rfl e
      · have := ih h1 hnd.2; omega
end Go.Proofs.YtncjffkpkmjgkaaGreatDoor.Sg

/-! Kb -/
namespace Go.Proofs.YtncjffkpkmjgkaaGreatDoor.Sg
open Go.RowKit Er Go.Maps

section
variable {S : List Nat} {E : Nat → Addr} {B : Nat} {P : Pm} {d : Nat} {D : Dk} {A F : Mm} {w : World}

theorem ev110 {E : Nat → Addr} {a : Option Addr} (h : ev E 110 = .iface 289 (.pointer a)) : a = some (E 9) := by
  rw [show (110 : Nat) = 101 + 9 from rfl, ev_some E 9] at h
  simpa using h.symm
abbrev crashE (E : Nat → Addr) : Value := .iface 289 (.pointer (some (E 9)))
theorem ev110' {E : Nat → Addr} {v : Value} (h : ev E 110 = .iface 289 v) : v = .pointer (some (E 9)) := by
  rw [show (110 : Nat) = 101 + 9 from rfl, ev_some E 9] at h
  simpa using h.symm

/-! ### calls of a disk whose power goes -/
theorem dsync_x (C : Ctx S E B P) (hD : DkM P d D A) (hH : Hp w P (A ++ F)) (s : Nam) (hs : s.length ≤ 1099511627776) (h : D.ok = false) :
    Calls Tryz.prog 62 #[ptr d, str s] w fun e w' => e = .returned (crashE E) ∧ ∃ A', DkM P d D.beg A' ∧ Hp w' P (A' ++ F) := by
  obtain ⟨a, ha, hc⟩ := bad_sync C hD hH s hs 110 (find_off h s)
  rw [ev110' ha] at hc
  exact hc
theorem dappend_x (C : Ctx S E B P) (hD : DkM P d D A) (hH : Hp w P (A ++ F)) (s : Nam) (hs : s.length ≤ 1099511627776) (h : D.ok = false) (y : Value) :
    Calls Tryz.prog 12 #[ptr d, str s, y] w fun e w' => e = .returned (crashE E) ∧ ∃ A', DkM P d D.beg A' ∧ Hp w' P (A' ++ F) := by
  obtain ⟨a, ha, hc⟩ := dappend_bad C hD hH s hs 110 (find_off h s) y
  rw [ev110' ha] at hc
  exact hc
theorem dfind_x (C : Ctx S E B P) (hD : DkM P d D A) (hH : Hp w P (A ++ F)) (s : Nam) (hs : s.length ≤ 1099511627776) (h : D.ok = false) :
    Calls Tryz.prog 49 #[ptr d, str s] w fun e w' => e = .returned (.tuple #[.pointer none, crashE E]) ∧ ∃ A', DkM P d D.beg A' ∧ Hp w' P (A' ++ F) := by
  obtain ⟨a, ha, hc⟩ := find_bad C hD hH s hs 110 (find_off h s)
  rw [ev110' ha] at hc
  exact hc
set_option maxRecDepth 100000 in
theorem dcut_x (C : Ctx S E B P) (hD : DkM P d D A) (hH : Hp w P (A ++ F)) (s : Nam) (hs : s.length ≤ 1099511627776) (h : D.ok = false) (n : Int) :
    Calls Tryz.prog 61 #[ptr d, str s, .int .i64 n] w fun e w' => e = .returned (crashE E) ∧ ∃ A', DkM P d D.beg A' ∧ Hp w' P (A' ++ F) := by
  go_enter Tryz.func61, Tryz.ntmps61
  go_wp2_with fail
  refine (dfind_x C hD hH s hs h).mono ?_
  rintro e w1 ⟨rfl, A1, hD1, hH1⟩
  go_wp2_with fail
  go_ret
  exact ⟨rfl, A1, hD1, hH1⟩
set_option maxRecDepth 100000 in
theorem dremove_x (C : Ctx S E B P) (hD : DkM P d D A) (hH : Hp w P (A ++ F)) (s : Nam) (hs : s.length ≤ 1099511627776) (h : D.ok = false) :
    Calls Tryz.prog 84 #[ptr d, str s] w fun e w' => e = .returned (crashE E) ∧ ∃ A', DkM P d D.beg A' ∧ Hp w' P (A' ++ F) := by
  go_enter Tryz.func84, Tryz.ntmps84
  go_wp2_with fail
  refine (dfind_x C hD hH s hs h).mono ?_
  rintro e w1 ⟨rfl, A1, hD1, hH1⟩
  go_wp2_with fail
  go_ret
  exact ⟨rfl, A1, hD1, hH1⟩
set_option maxRecDepth 100000 in
theorem dremove_k (C : Ctx S E B P) (hD : DkM P d D A) (hH : Hp w P (A ++ F)) (h : D.ok = true) (s : Nam) (hs : s.length ≤ 1000000) (f : Fl) (hf : D.look s = some f) (hl : D.nm.length < 1000000) (hc : D.ch.length ≤ 1000000) :
    Calls Tryz.prog 84 #[ptr d, str s] w fun e w' => e = .returned .nilIface ∧ ∃ A', DkM P d (D.remove s) A' ∧ Hp w' P (A' ++ F) := by
  have HF := Lib.hid (find_on h hf)
  have HE : Hid (str [] = .string ⟨#[]⟩) := rfl
  have HN : Hid (D.beg.nm.length < 1000000 ∧ D.beg.ch.length ≤ 1000000) := by show _ ∧ _; rw [(beg_fl D).2.1, (beg_fl D).2.2.2.1]; exact ⟨hl, hc⟩
  clear hf
  go_enter Tryz.func84, Tryz.ntmps84
  go_wp2_with fail
  refine (find_ok C hD hH s (by omega) f.blk HF.out).mono ?_
  rintro e w1 ⟨rfl, A1, hD1, hH1⟩
  have H1 := Lib.hid hH1
  have HD1 := Lib.hid hD1
  clear hH1 hD1
  go_wp2_with fail
  refine (change_any P d D.beg A1 F HD1.out [] s none (.pointer none) rfl HN.out.1 HN.out.2 (by simp) hs _ H1.out).mono ?_
  rintro e w2 ⟨rfl, A2, hD2, hH2⟩
  go_wp2_with fail
  go_ret
  exact ⟨rfl, A2, hD2, hH2⟩
set_option maxRecDepth 100000 in
theorem sdir_x (C : Ctx S E B P) (hD : DkM P d D A) (hH : Hp w P (A ++ F)) (h : D.ok = false) :
    Calls Tryz.prog 69 #[ptr d] w fun e w' => e = .returned (crashE E) ∧ ∃ A', DkM P d D.beg A' ∧ Hp w' P (A' ++ F) := by
  go_enter Tryz.func69, Tryz.ntmps69
  go_wp2_with fail
  refine (begin_bad C hD hH h).mono ?_
  rintro e w1 ⟨rfl, A1, hD1, hH1⟩
  go_wp2_with fail
  go_ret
  exact ⟨rfl, A1, hD1, hH1⟩
set_option maxRecDepth 100000 in
theorem create_x (C : Ctx S E B P) (hD : DkM P d D A) (hH : Hp w P (A ++ F)) (s : Nam) (h : D.ok = false) :
    Calls Tryz.prog 11 #[ptr d, str s] w fun e w' => e = .returned (crashE E) ∧ ∃ A', DkM P d D.beg A' ∧ Hp w' P (A' ++ F) := by
  go_enter Tryz.func11, Tryz.ntmps11
  go_wp2_with fail
  refine (begin_bad C hD hH h).mono ?_
  rintro e w1 ⟨rfl, A1, hD1, hH1⟩
  go_wp2_with fail
  go_ret
  exact ⟨rfl, A1, hD1, hH1⟩

end
end Go.Proofs.YtncjffkpkmjgkaaGreatDoor.Sg

/-! Kc -/
namespace Go.Proofs.YtncjffkpkmjgkaaGreatDoor.Sg
open Go.RowKit Er Go.Maps

section
variable {S : List Nat} {E : Nat → Addr} {B : Nat} {P : Pm} {s d : Nat} {G : Sg} {D : Dk} {A Ad F : Mm} {w : World}

/-! ### seg.Sync -/
set_option maxRecDepth 100000 in
set_option maxHeartbeats 1000000 in
theorem ssync_k (C : Ctx S E B P) (hok : D.ok = true) (hG : SgM s G A) (hO : SegOn D.un G) (hD : DkM P G.d D Ad) (hH : Hp w P (A ++ (Ad ++ F))) :
    Calls Tryz.prog 65 #[ptr s] w fun e w' => e = .returned .nilIface ∧ ∃ A' Ad' D', SgM s G.syn A' ∧ DkM P G.d D' Ad' ∧ SegOn D'.un G.syn ∧ DkSame D.un D'.un ∧ D'.used = D.used ∧
      (∀ s', s' ≠ G.nm → D'.look s' = D.look s') ∧ PowOn D D' ∧ Hp w' P (A' ++ (Ad' ++ F)) := by
  obtain ⟨f, h1, h2, h3⟩ := hO.f
  have hr := hO.room
  have hu := hO.used
  have hnm := hO.nm
  have hW := hO.W
  have hfl : f.b.length = sizes G.l := by rw [h2, flatB_len]
  have hO2 : SegOn (D.un.sync f) G.syn := ⟨sync_I hO.I f, hO.ok, hO.by_, hO.base, hO.nm, ⟨{ f with s := f.b.length }, by show Dk.look _ G.nm = _; rw [sync_look hO.I h1, if_pos rfl], h2, hfl⟩, by rw [(sync_same hO.I f).room]; exact hr, by rw [sync_used hO.I h1, (sync_same hO.I f).room]; exact hu⟩
  obtain ⟨lv, c0, c1, -, -, -, -⟩ := hG.cells hH
  have HO2 := Lib.hid hO2
  have HSM := Lib.hid (sync_same hO.I f)
  have HPO := Lib.hid (sync_on hok f)
  have HUS : Hid ((D.sync f).used = D.used) := by have h := sync_used hO.I h1; rw [← sync_un] at h; exact h
  have HLK : Hid (∀ s', s' ≠ G.nm → (D.sync f).look s' = D.look s') := fun s' hs' => by
    have h := sync_look hO.I h1 s'
    rw [← sync_un, un_look, un_look, if_neg hs'] at h
    exact h
  have HF := Lib.hid (find_on hok h1)
  have HOK := Lib.hid hok
  rw [← sync_un] at HO2 HSM
  have HL : Hid (ffind D.fl f.blk = some f) := (look_some h1).2
  have HW := Lib.hid hW
  have H0 := Lib.hid hH
  obtain ⟨n, hn⟩ : ∃ n, sizes G.l = n := ⟨_, rfl⟩
  have HN := Lib.hid hn
  clear h1 h2 h3 hH hO hO2 hfl hW hn hok
  go_enter Tryz.func65, Tryz.ntmps65
  go_wp2_with fail
  go_region_held3 (fun w' => w'.cell? ⟨s, 0, none⟩ = some (ptr G.d) ∧ w'.cell? ⟨s, 1, none⟩ = some (str G.nm))
    (first
      | go_keep
      | exact ⟨k0, k1⟩)
    (first
      | (go_at_call 62
         with_reducible refine (dsync_ok C hD (Hp.mid H0.out.drew) G.nm (by omega) f.blk HF.out f HL.out).mono ?_
         rintro e w1 ⟨rfl, Ad1, hD1, hH1⟩
         have hH3 := Hp.mid hH1
         obtain ⟨lv3, k0, k1, -, -, -, -⟩ := hG.cells hH3))
  have H3 := Lib.hid hH3
  have HD1 := Lib.hid hD1
  clear hH1 hH3 hD1
  go_wp2_with fail
  refine (ssize_any hG HW.out H3.out).mono ?_
  rintro e w2 ⟨rfl, hH4⟩
  rw [HN.out]
  obtain ⟨lv4, Al, rfl, hr4⟩ := hG
  have k5 := (@Hp.cell _ _ _ hH4 s (sgCells G lv4) 104 (0, 0) (by simp)) (i := 5) rfl
  have kf := @Hp.frozen _ _ _ hH4 s (sgCells G lv4) 104 (by simp) 5
  have H4 := Lib.hid hH4
  clear hH4
  go_wp2_with fail
  go_ret
  refine ⟨rfl, (s, Obj.cells (sgCells G.syn lv4) 104 (0, 0)) :: Al, Ad1, D.sync f, ⟨lv4, Al, rfl, hr4⟩, HD1.out, HO2.out, HSM.out, HUS.out, HLK.out, HPO.out, ?_⟩
  have := H4.out.set 5 (.int .i64 n)
  unfold Sg.syn
  rw [HN.out]
  simpa [sgCells] using this


set_option maxRecDepth 100000 in
set_option maxHeartbeats 1000000 in
theorem ssync_x (C : Ctx S E B P) (hok : D.ok = false) (hG : SgM s G A) (hnm : G.nm.length ≤ 1000) (hD : DkM P G.d D Ad) (hH : Hp w P (A ++ (Ad ++ F))) :
    Calls Tryz.prog 65 #[ptr s] w fun e w' => e = .returned (crashE E) ∧ ∃ Ad', DkM P G.d D.beg Ad' ∧ Hp w' P (A ++ (Ad' ++ F)) := by
  obtain ⟨lv, c0, c1, -, -, -, -⟩ := hG.cells hH
  have H0 := Lib.hid hH
  have HOK := Lib.hid hok
  clear hH hok
  go_enter Tryz.func65, Tryz.ntmps65
  go_wp2_with fail
  go_region_held3 (fun w' => w'.cell? ⟨s, 0, none⟩ = some (ptr G.d) ∧ w'.cell? ⟨s, 1, none⟩ = some (str G.nm))
    (first
      | go_keep
      | exact ⟨k0, k1⟩)
    (first
      | (go_at_call 62
         with_reducible refine (dsync_x C hD (Hp.mid H0.out.drew) G.nm (by omega) HOK.out).mono ?_
         rintro e w1 ⟨rfl, Ad1, hD1, hH1⟩
         have hH3 := Hp.mid hH1
         obtain ⟨lv3, k0, k1, -, -, -, -⟩ := hG.cells hH3))
  have H3 := Lib.hid hH3
  have HD1 := Lib.hid hD1
  clear hH1 hH3 hD1
  go_wp2_with fail
  go_ret
  exact ⟨rfl, Ad1, HD1.out, H3.out⟩

/-! ### seg.Remove -/
set_option maxRecDepth 100000 in
theorem sremove_x (C : Ctx S E B P) (hok : D.ok = false) (hG : SgM s G A) (hnm : G.nm.length ≤ 1000) (hD : DkM P G.d D Ad) (hH : Hp w P (A ++ (Ad ++ F))) :
    Calls Tryz.prog 67 #[ptr s] w fun e w' => e = .returned (crashE E) ∧ ∃ Ad', DkM P G.d D.beg Ad' ∧ Hp w' P (A ++ (Ad' ++ F)) := by
  obtain ⟨lv, c0, c1, -, -, -, -⟩ := hG.cells hH
  have H0 := Lib.hid hH
  have HOK := Lib.hid hok
  clear hH hok
  go_enter Tryz.func67, Tryz.ntmps67
  go_wp2_with fail
  go_region_held3 (fun w' => w'.cell? ⟨s, 0, none⟩ = some (ptr G.d) ∧ w'.cell? ⟨s, 1, none⟩ = some (str G.nm))
    (first
      | go_keep
      | exact ⟨k0, k1⟩)
    (first
      | (go_at_call 84
         with_reducible refine (dremove_x C hD (Hp.mid H0.out.drew) G.nm (by omega) HOK.out).mono ?_
         rintro e w1 ⟨rfl, Ad1, hD1, hH1⟩
         have hH3 := Hp.mid hH1
         obtain ⟨lv3, k0, k1, -, -, -, -⟩ := hG.cells hH3))
  have H3 := Lib.hid hH3
  have HD1 := Lib.hid hD1
  clear hH1 hH3 hD1
  go_wp2_with fail
  go_ret
  exact ⟨rfl, Ad1, HD1.out, H3.out⟩
set_option maxRecDepth 100000 in
theorem sremove_k (C : Ctx S E B P) (hok : D.ok = true) (hG : SgM s G A) (hO : SegOn D.un G) (hD : DkM P G.d D Ad) (hl : D.nm.length < 1000000) (hc : D.ch.length ≤ 1000000) (hH : Hp w P (A ++ (Ad ++ F))) :
    Calls Tryz.prog 67 #[ptr s] w fun e w' => e = .returned .nilIface ∧ ∃ Ad', DkM P G.d (D.remove G.nm) Ad' ∧ Hp w' P (A ++ (Ad' ++ F)) := by
  obtain ⟨f, h1, -, -⟩ := hO.f
  have hnm := hO.nm
  obtain ⟨lv, c0, c1, -, -, -, -⟩ := hG.cells hH
  have H0 := Lib.hid hH
  have HOK := Lib.hid hok
  have HF : Hid (D.look G.nm = some f) := h1
  clear hH hok h1 hO
  go_enter Tryz.func67, Tryz.ntmps67
  go_wp2_with fail
  go_region_held3 (fun w' => w'.cell? ⟨s, 0, none⟩ = some (ptr G.d) ∧ w'.cell? ⟨s, 1, none⟩ = some (str G.nm))
    (first
      | go_keep
      | exact ⟨k0, k1⟩)
    (first
      | (go_at_call 84
         with_reducible refine (dremove_k C hD (Hp.mid H0.out.drew) HOK.out G.nm (by omega) f HF.out hl hc).mono ?_
         rintro e w1 ⟨rfl, Ad1, hD1, hH1⟩
         have hH3 := Hp.mid hH1
         obtain ⟨lv3, k0, k1, -, -, -, -⟩ := hG.cells hH3))
  have H3 := Lib.hid hH3
  have HD1 := Lib.hid hD1
  clear hH1 hH3 hD1
  go_wp2_with fail
  go_ret
  exact ⟨rfl, Ad1, HD1.out, H3.out⟩

/-! ### seg.Append -/
theorem sappend_k (C : Ctx S E B P) (hok : D.ok = true) (hG : SgM s G A) (hO : SegOn D.un G) (hD : DkM P G.d D Ad) (x : Bt) (hxo : BtOk x) (hby : BtBy x) (v : Value) (hv : Pers P (fun w => BtV w v x)) (hf : G.foll x = true)
    (hroom : D.used + szB x ≤ D.room) (hH : Hp w P (A ++ (Ad ++ F))) :
    Calls Tryz.prog 91 #[ptr s, v] w fun e w' => e = .returned .nilIface ∧ ∃ P' A' Ad' D', Sub P P' ∧ SgM s (G.push x) A' ∧ DkM P' G.d D' Ad' ∧ SegOn D'.un (G.push x) ∧ DkSame D.un D'.un ∧ D'.used = D.used + szB x ∧
      (∀ s', s' ≠ G.nm → D'.look s' = D.look s') ∧ PowOn D D' ∧ Hp w' P' (A' ++ (Ad' ++ F)) := by
  obtain ⟨f, h1, h2, h3⟩ := hO.f
  have hlen : f.b.length ≤ D.used := used_ge h1
  have hr : D.room ≤ 4194304 := hO.room
  have hu : D.used ≤ D.room := hO.used
  refine (sappend_ok C hG hO.W hD (un_W hO.I.w) x hxo hby v hv hf (by have := hO.nm; omega) f.blk (find_on hok h1) f (look_some h1).2 (by omega) hroom (by omega) hH).mono ?_
  rintro e w' ⟨rfl, P', A', Ad', hs, hG', hD', hH'⟩
  have hus : (D.app f (batB x)).used = D.used + szB x := by have h := app_used hO.I h1 (batB x); rw [← app_un] at h; exact h
  have hsame := app_same hO.I f (batB x)
  rw [← app_un] at hsame
  have hI := app_I hO.I f (batB x)
  rw [← app_un] at hI
  have hlk := app_look hO.I h1 (batB x)
  simp only [← app_un, un_look] at hlk
  refine ⟨rfl, P', A', Ad', _, hs, hG', hD', ⟨hI, ?_, ?_, hO.base, hO.nm, ⟨{ f with b := f.b ++ batB x }, ?_, ?_, h3⟩, ?_, ?_⟩, hsame, hus, fun s' hne => ?_, app_on hok f _, hH'⟩
  · intro y hy
    rcases List.mem_append.1 hy with hy | hy
    · exact hO.ok y hy
    · rw [List.mem_singleton.1 hy]; exact hxo
  · intro y hy
    rcases List.mem_append.1 hy with hy | hy
    · exact hO.by_ y hy
    · rw [List.mem_singleton.1 hy]; exact hby
  · show (D.app f (batB x)).look G.nm = _
    rw [hlk, if_pos rfl]
  · show f.b ++ batB x = flatB (G.l ++ [x])
    rw [flatB_app, h2]; simp [flatB]
  · rw [hsame.room]; exact hr
  · rw [hsame.room, un_used, hus]; exact hroom
  · rw [hlk, if_neg hne]

set_option maxRecDepth 100000 in
set_option maxHeartbeats 1000000 in
theorem sappend_x (C : Ctx S E B P) (hok : D.ok = false) (hG : SgM s G A) (hO : SegOn D.un G) (hD : DkM P G.d D Ad) (x : Bt) (hxo : BtOk x) (hby : BtBy x) (v : Value) (hv : Pers P (fun w => BtV w v x)) (hf : G.foll x = true) (hH : Hp w P (A ++ (Ad ++ F))) :
    Calls Tryz.prog 91 #[ptr s, v] w fun e w' => e = .returned (crashE E) ∧ ∃ P' Ad', Sub P P' ∧ DkM P' G.d D.beg Ad' ∧ Hp w' P' (A ++ (Ad' ++ F)) := by
  have hnm := hO.nm
  obtain ⟨rs, rfl, h2⟩ := hH.use hv
  obtain ⟨ra, rc, rfl⟩ := h2.shape
  have hH0 : Hp (w.alloc (.cells #[.int .i64 x.b, .int .i64 x.e, .slice ra x.r.length rc] 38)) P (A ++ (Ad ++ ((w.heap.size, .cells #[.int .i64 x.b, .int .i64 x.e, .slice ra x.r.length rc] 38 (0, 0)) :: F))) := by
    have := Hp.mid (A := [(w.heap.size, Obj.cells #[.int .i64 x.b, .int .i64 x.e, .slice ra x.r.length rc] 38 (0, 0))]) (B := A ++ Ad) (C := F) (by simpa [List.append_assoc] using hH.alloc (.cells #[.int .i64 x.b, .int .i64 x.e, .slice ra x.r.length rc] 38))
    simpa [List.append_assoc] using this
  have H0 := Lib.hid hH0
  have HV := Lib.hid hv
  have HO := Lib.hid hO
  have HK := Lib.hid hxo
  have HF := Lib.hid hf
  have HOK := Lib.hid hok
  clear hH hH0 hv h2 hO hxo hf hok
  go_enter Tryz.func91, Tryz.ntmps91
  go_wp2_with fail
  refine (bytes_ok (C.all 3 (by decide)) (C.all 4 (by decide)) x HK.out hby _ _ (H0.out.use C.errs) (H0.out.use HV.out)).mono ?_
  rintro e w1 ⟨⟨v1, rfl, hown⟩, hb1⟩
  obtain ⟨A1, hr1, hH1⟩ := Hp.rowNew H0.out (H0.out.below hb1 (Nat.le_refl _)) hown (Nat.le_refl _)
  obtain ⟨P1, hs1, hH2, hp1⟩ := Hp.sealBytes hH1 hr1
  obtain ⟨va, vc, rfl, -⟩ := (hH2.use hp1).shape
  rw [show (batB x).length = szB x from rfl]
  have c0 : w1.cell? ⟨w.heap.size, 0, none⟩ = some (.int .i64 x.b) := (@Hp.cell _ _ _ hH2 w.heap.size #[.int .i64 x.b, .int .i64 x.e, .slice ra x.r.length rc] 38 (0, 0) (by simp)) rfl
  have c1 : w1.cell? ⟨w.heap.size, 1, none⟩ = some (.int .i64 x.e) := (@Hp.cell _ _ _ hH2 w.heap.size #[.int .i64 x.b, .int .i64 x.e, .slice ra x.r.length rc] 38 (0, 0) (by simp)) rfl
  have c2 : w1.cell? ⟨w.heap.size, 2, none⟩ = some (.slice ra x.r.length rc) := (@Hp.cell _ _ _ hH2 w.heap.size #[.int .i64 x.b, .int .i64 x.e, .slice ra x.r.length rc] 38 (0, 0) (by simp)) rfl
  have H2 := Lib.hid hH2
  have HS1 := Lib.hid hs1
  clear hb1 hown hr1 hH1 hH2 hp1 hs1
  go_wp2_with fail
  refine (follows_any hG HO.out.W x _ (HV.out.sub HS1.out) H2.out).mono ?_
  rintro e w2 ⟨rfl, hH3⟩
  rw [HF.out]
  obtain ⟨lv, d0, d1, -, -, -, -, -, -⟩ := hG.cells hH3
  have H3 := Lib.hid hH3
  clear hH3 c0 c1 c2
  go_wp2_with fail
  go_region_held3 (fun w' => w'.cell? ⟨s, 0, none⟩ = some (ptr G.d) ∧ w'.cell? ⟨s, 1, none⟩ = some (str G.nm))
    (first
      | go_keep
      | exact ⟨k0, k1⟩)
    (first
      | (go_at_call 12
         with_reducible refine (dappend_x (C.sub HS1.out) (hD.sub HS1.out) (Hp.mid H3.out).drew G.nm (by omega) HOK.out (.slice va (szB x) vc)).mono ?_
         rintro e w3 ⟨rfl, Ad2, hD2, hH4⟩
         have hH5 := Hp.mid hH4
         obtain ⟨lv2, k0, k1, -, -, -, -, -, -⟩ := hG.cells hH5))
  have H5 := Lib.hid hH5
  have HD2 := Lib.hid hD2
  clear hH4 hH5 hD2
  go_wp2_with fail
  go_ret
  refine ⟨rfl, P1, Ad2, HS1.out, HD2.out, ?_⟩
  have hz := Hp.drop (Hp.mid (A := A ++ Ad2) (B := [(w.heap.size, Obj.cells #[.int .i64 x.b, .int .i64 x.e, .slice ra x.r.length rc] 38 (0, 0))]) (C := F) (by simpa [List.append_assoc] using H5.out))
  simpa [List.append_assoc] using hz

/-! ### seg.Create -/
/-- A file that was made, whose name is not kept yet. -/
structure Pend (D D' : Dk) (base b : Nat) : Prop where
  room : D'.room = D.room
  used : D'.used = D.used
  nm : D'.nm = (segNm base, b) :: D.nm
  kp : D'.kp = D.kp
  n : D'.n = D.n + 1
  ch : D'.ch = D.ch ++ [⟨segNm base, [], some b⟩]
  I : DkI D'
  lk : ∀ s', s' ≠ segNm base → D'.look s' = D.look s'
  new : ∃ f, D'.look (segNm base) = some f ∧ f.b = [] ∧ f.s = 0

set_option maxRecDepth 100000 in
set_option maxHeartbeats 400000 in
theorem screate_any (C : Ctx S E B P) (hD : DkM P d D A) (hI : DkI D.un) (base : Nat) (hb : base ≤ 1099511627776) (every : Nat) (h1 : 1 ≤ every) (h2 : every ≤ 1048576)
    (hl : D.look (segNm base) = none) (hn : D.n ≤ 1000000) (hnl : D.nm.length < 1000000) (hc : D.ch.length ≤ 1000000) (hr : D.room ≤ 4194304) (hu : D.used ≤ D.room) (hH : Hp w P (A ++ F)) :
    Calls Tryz.prog 90 #[ptr d, .int .i64 base, .int .i64 every] w fun e w' =>
      (∃ s As A' D', e = .returned (.tuple #[ptr s, .nilIface]) ∧ SgM s ⟨d, segNm base, base, every, [], 0⟩ As ∧ DkM P d D' A' ∧ SegOn D'.un ⟨d, segNm base, base, every, [], 0⟩ ∧ Made D.un D'.un base ∧ PowOn D D' ∧ Hp w' P (As ++ (A' ++ F))) ∨
      (∃ A' D', e = .returned (.tuple #[.pointer none, crashE E]) ∧ DkM P d D' A' ∧ PowOff D D' ∧ (D'.un = D.un ∨ ∃ b, Pend D.un D'.un base b) ∧ Hp w' P (A' ++ F)) := by
  obtain ⟨nm, hnm⟩ : ∃ nm, nm = segNm base := ⟨_, rfl⟩
  have hnl17 : nm.length ≤ 1099511627776 := by rw [hnm, segNm_len]; omega
  have hv : vname nm = true := by rw [hnm]; exact segNm_valid base
  rw [← hnm] at hl
  have hsg : sg0 d base every = ⟨d, nm, base, every, [], 0⟩ := by rw [hnm]; rfl
  have HG : Hid (sg0 d base every = ⟨d, nm, base, every, [], 0⟩) := hsg
  have H := Lib.hid hH
  have HV := Lib.hid hv
  have HL := Lib.hid hl
  have HNM := Lib.hid hnm
  have hlu : D.un.look nm = none := HL.out
  have hpend : ∀ b, ((D.un.create nm b).fl.map (·.blk)).Nodup → Pend D.un (D.un.create nm b) base b := fun b hnd => by
    have e := create_eq hI hlu b
    have hr := create_room hI hlu b
    refine ⟨hr.1, create_used hI hlu hnd, by rw [← HNM.out, e], by rw [e], hr.2.2.1, by rw [← HNM.out, e], create_I hI hlu hnd, fun s' hs' => by rw [create_look hI hlu hnd, if_neg (by rw [HNM.out]; exact hs')], ⟨⟨b, D.un.n + 1, [], 0⟩, ?_, rfl, rfl⟩⟩
    rw [create_look hI hlu hnd, if_pos HNM.out.symm]
  have HPE := Lib.hid hpend
  have hsynce : ∀ b, ((D.un.create nm b).fl.map (·.blk)).Nodup → Pend D.un ((D.un.create nm b).sync ⟨b, D.n + 1, [], 0⟩) base b := fun b hnd => by
    have p := HPE.out b hnd
    have hlk : (D.un.create nm b).look nm = some ⟨b, D.un.n + 1, [], 0⟩ := by rw [create_look hI hlu hnd, if_pos rfl]
    have s1 := sync_same p.I ⟨b, D.un.n + 1, [], 0⟩
    have sl := fun s' => sync_look p.I hlk s'
    have e : (D.un.create nm b).sync ⟨b, D.n + 1, [], 0⟩ = (D.un.create nm b).beg.withF { (⟨b, D.n + 1, [], 0⟩ : Fl) with s := (⟨b, D.n + 1, [], 0⟩ : Fl).b.length } (wrap64 ((D.un.create nm b).calls + 1)) := rfl
    refine ⟨s1.room.trans p.room, (sync_used p.I hlk).trans p.used, s1.nmq.trans p.nm, ?_, s1.n.trans p.n, ?_, sync_I p.I _, fun s' hs' => ?_, ⟨⟨b, D.n + 1, [], 0⟩, ?_, rfl, rfl⟩⟩
    · rw [e, p.I.beg]; exact p.kp
    · rw [e, p.I.beg]; exact p.ch
    · have := sl s'
      rw [if_neg (by rw [HNM.out]; exact hs')] at this
      exact this.trans (p.lk s' hs')
    · have := sl nm
      rw [if_pos rfl] at this
      rw [← HNM.out]
      exact this
  have HSY := Lib.hid hsynce
  have hmade : ∀ b, ((D.un.create nm b).fl.map (·.blk)).Nodup → SegOn (D.un.made nm b) ⟨d, segNm base, base, every, [], 0⟩ ∧ Made D.un (D.un.made nm b) base := fun b hnd => by
    have hI2 := made_I hI hlu hnd
    have hlk := made_look hI hlu hnd
    have hus := made_used hI hlu hnd
    obtain ⟨r1, r2, r3, r4⟩ := made_room hI hlu hnd
    refine ⟨⟨hI2, by simp, by simp, hb, by simp [segNm_len], ⟨⟨b, D.n + 1, [], 0⟩, ?_, rfl, rfl⟩, by rw [r1]; exact hr, by rw [hus, r1]; exact hu⟩, ⟨r1, hus, r2, r3, r4, made_kp _ _, fun s' hs' => by rw [hlk, if_neg (by rw [HNM.out]; exact hs')]⟩⟩
    show Dk.look _ (segNm base) = _
    rw [hlk, if_pos HNM.out.symm]; rfl
  have HMA := Lib.hid hmade
  clear hmade
  clear hH hnm hsg hv hl hpend hsynce hlu
  go_enter Tryz.func90, Tryz.ntmps90
  go_wp2_with fail
  refine (fresh_ok (d := d) C base hb every h1 h2 H.out).mono ?_
  rintro e w1 ⟨s, As, rfl, hG, hH1⟩
  rw [HG.out] at hG
  obtain ⟨lv, -, k1, -, -, -, -⟩ := hG.cells hH1
  have H1 := Lib.hid hH1
  clear hH1
  go_wp2_with fail
  cases hok : D.ok with
  | false =>
    refine (create_x C hD (Hp.mid H1.out) nm hok).mono ?_
    rintro e w2 ⟨rfl, A2, hD2, hH2⟩
    have H2 := Lib.hid (Hp.mid hH2).drop
    have HX := Lib.hid (beg_off hok)
    clear hH2 hok
    go_wp2_with fail
    go_ret2
    exact .inr ⟨A2, D.beg, rfl, hD2, HX.out, .inl (beg_un D), H2.out⟩
  | true =>
    refine (create_ok C hD (Hp.mid H1.out) hok nm HV.out (look_none (un_W hI.w) HL.out) hn hnl hc).mono ?_
    rintro e w2 ⟨rfl, b, A2, hD2, hH2⟩
    have hnd : ((D.un.create nm b).fl.map (·.blk)).Nodup := by
      have h := hD2.blks_nd hH2
      rw [← create_un]; exact h
    have hlk : (D.create nm b).look nm = some ⟨b, D.n + 1, [], 0⟩ := by
      have h := create_look hI (show D.un.look nm = none from HL.out) hnd nm
      rw [if_pos rfl, ← create_un] at h
      exact h
    have hH3 := Hp.mid hH2
    obtain ⟨lv2, -, k2, -, -, -, -⟩ := hG.cells hH3
    have H3 := Lib.hid hH3
    have HK := Lib.hid hlk
    have HND := Lib.hid hnd
    have HON := Lib.hid (create_on hok nm b)
    clear hH2 hH3 hlk hnd k1 hok
    go_wp2_with fail
    cases hok2 : (D.create nm b).ok with
    | false =>
      refine (dsync_x C hD2 (Hp.mid H3.out) nm hnl17 hok2).mono ?_
      rintro e w3 ⟨rfl, A3, hD3, hH3⟩
      have H4 := Lib.hid (Hp.mid hH3).drop
      have HX := Lib.hid (PowOff.after HON.out (beg_off hok2))
      clear hH3 hok2
      go_wp2_with fail
      go_ret2
      exact .inr ⟨A3, _, rfl, hD3, HX.out, .inr ⟨b, by rw [beg_un, create_un]; exact HPE.out b HND.out⟩, H4.out⟩
    | true =>
      refine (dsync_ok C hD2 (Hp.mid H3.out) nm hnl17 b (find_on hok2 HK.out) ⟨b, D.n + 1, [], 0⟩ (look_some HK.out).2).mono ?_
      rintro e w3 ⟨rfl, A3, hD3, hH3⟩
      have H4 := Lib.hid (Hp.mid hH3)
      have HON2 := Lib.hid (HON.out.trans (sync_on hok2 ⟨b, D.n + 1, [], 0⟩))
      clear hH3 k2 hok2
      go_wp2_with fail
      cases hok3 : ((D.create nm b).sync ⟨b, D.n + 1, [], 0⟩).ok with
      | false =>
        refine (sdir_x C hD3 (Hp.mid H4.out) hok3).mono ?_
        rintro e w4 ⟨rfl, A4, hD4, hH4⟩
        have H5 := Lib.hid (Hp.mid hH4).drop
        have HX := Lib.hid (PowOff.after HON2.out (beg_off hok3))
        clear hH4 hok3
        go_wp2_with fail
        go_ret2
        exact .inr ⟨A4, _, rfl, hD4, HX.out, .inr ⟨b, by rw [beg_un, sync_un, create_un]; exact HSY.out b HND.out⟩, H5.out⟩
      | true =>
        refine (sdir_ok C hD3 (Hp.mid H4.out) hok3).mono ?_
        rintro e w4 ⟨rfl, A4, hD4, hH4⟩
        have H5 := Lib.hid (Hp.mid hH4)
        have HON3 := Lib.hid (HON2.out.trans (sdir_on hok3))
        clear hH4 hok3
        go_wp2_with fail
        go_ret2
        have hu4 : ((D.create nm b).sync ⟨b, D.n + 1, [], 0⟩).sdir.un = D.un.made nm b := by rw [sdir_un, sync_un, create_un]; rfl
        exact .inl ⟨s, As, A4, _, rfl, by rw [← HNM.out]; exact hG, hD4, by rw [hu4]; exact (HMA.out b HND.out).1, by rw [hu4]; exact (HMA.out b HND.out).2, HON3.out, H5.out⟩
end
end Go.Proofs.YtncjffkpkmjgkaaGreatDoor.Sg

/-! Kd -/
namespace Go.Proofs.YtncjffkpkmjgkaaGreatDoor.Sg
open Go.RowKit Er Go.Maps

abbrev begFn (b : Nat) : Value := .func (.func 132) #[] #[ptr b]
set_option maxRecDepth 100000 in
theorem begfn_ok (x : Bt) (p b : Nat) (o : Int) (w : World) (hc : w.cell? ⟨b, 0, none⟩ = some (.int .i64 o)) :
    Calls Tryz.prog 132 #[.agg #[.int .i64 x.b, .int .i64 (x.b + x.r.length), .int .i64 p, .int .i64 (szB x), .int .i64 x.e, .int .i64 (tmax x)], ptr b] w fun e w' => e = .returned (.bool (x.b == o)) ∧ Below w.heap.size w w' := by
  have hb := World.block_lt_of_cell? _ _ hc
  go_enter Tryz.func132, Tryz.ntmps132
  go_wp2_with fail
  go_ret
  exact ⟨rfl, (Below.refl _ _).alloc (Nat.le_refl _) _⟩


theorem idxB_neg (o : Int) (l : List Bt) : (0 ≤ idxB o l) ↔ l.any (fun x => x.b == o) = true := by
  unfold idxB
  induction l with
  | nil => simp [idxO]
  | cons x l ih =>
    by_cases h : x.b = o
    · simp [idxO, h]
    · rw [idxO, if_neg h, List.any_cons, show (x.b == o) = false from beq_eq_false_iff_ne.2 h, Bool.false_or, ← ih]
      cases idxO o l with
      | none => simp
      | some k => simp; omega
/-- Does a batch of the segment begin at an offset, or does it end there? -/
def Sg.has (G : Sg) (o : Int) : Bool := (o == G.end_) || G.l.any (fun x => x.b == o)

section
variable {S : List Nat} {E : Nat → Addr} {B : Nat} {P : Pm} {s : Nat} {G : Sg} {D : Dk} {A Ad F : Mm} {w : World}

set_option maxRecDepth 100000 in
set_option maxHeartbeats 1000000 in
theorem idxbeg_ok (hG : SgM s G A) (hW : SgW G) (lv : Value) (h4 : w.cell? ⟨s, 4, none⟩ = some lv) (b : Nat) (o : Int) (hb : P.m b = some (.cells #[.int .i64 o] 2 (0, 0))) (hH : Hp w P (A ++ F)) :
    Calls Tryz.prog 133 #[lv, begFn b] w fun e w' => e = .returned (.int .i64 (idxB o G.l)) ∧ Hp w' P (A ++ F) := by
  have hbx : Pers P (fun w => w.cell? ⟨b, 0, none⟩ = some (.int .i64 o)) := fun w hw => by
    have := hw.m _ _ hb
    simp [World.cell?, this]
  obtain ⟨n, hn⟩ : ∃ n, G.l.length = n := ⟨_, rfl⟩
  have hnl := hW.len
  by_cases h0 : G.l = []
  · have hG2 := hG
    obtain ⟨lv2, Al, hA, hr⟩ := hG2
    obtain ⟨a, c, rfl⟩ := hr.shape
    have c4 : w.cell? ⟨s, 4, none⟩ = some (.slice a G.l.length c) := hH.cell (b := s) (c := sgCells G (.slice a G.l.length c)) (t := 104) (fr := (0, 0)) (by simp [hA]) rfl
    have hl0 : G.l.length = 0 := by rw [h0]; rfl
    rw [hl0] at c4
    rw [c4] at h4
    cases h4
    have H0 := Lib.hid hH
    have hi : idxB o G.l = -1 := by rw [h0]; rfl
    rw [hi]
    clear hH hr hG h0 hW c4 hn hi hb hbx hA hl0
    go_enter Tryz.func133, Tryz.ntmps133
    go_wp2_with fail
    go_loopg [8] 0 (fun m vi wr => vi = .int .i64 0 ∧ wr = w)
    case atStart => exact ⟨rfl, rfl⟩
    case round =>
      obtain ⟨rfl, rfl⟩ := hrel
      go_wp2_with fail
      go_ret
      exact ⟨rfl, H0.out⟩
  · obtain ⟨g, c, hc, hpl⟩ := hG.places h0
    obtain ⟨d4, -⟩ := hpl w P _ hH
    rw [d4] at h4
    cases h4
    rw [hn] at hc hnl ⊢
    have H0 := Lib.hid hH
    have HN := Lib.hid hn
    have HP := Lib.hid hpl
    have HBX := Lib.hid hbx
    clear hH hn hpl h0 hW d4 hb hbx
    go_enter Tryz.func133, Tryz.ntmps133
    go_wp2_with fail
    go_loopg [8] n (fun m vi wr => ∃ k : Nat, k + m = n ∧ vi = .int .i64 k ∧ (∀ x, x ∈ G.l.take k → x.b ≠ o) ∧ Hp wr P (A ++ F))
    case atStart => exact ⟨0, by omega, rfl, by simp, H0.out⟩
    case round =>
      obtain ⟨k, hk, rfl, hall, hHr⟩ := hrel
      by_cases hlt : k < n
      · obtain ⟨gj, rfl⟩ : ∃ x, gk = x + 1 := ⟨gk - 1, by omega⟩
        have hkl : k < G.l.length := by rw [HN.out]; exact hlt
        obtain ⟨x, hx⟩ : ∃ x, G.l[k] = x := ⟨_, rfl⟩
        obtain ⟨-, hpc⟩ := HP.out wr P _ hHr
        have hpc := hpc k hkl
        obtain ⟨p, hp⟩ : ∃ p, sizes (G.l.take k) = p := ⟨_, rfl⟩
        rw [hx, hp] at hpc
        have q0 := hpc 0 _ rfl
        have q1 := hpc 1 _ rfl
        have q2 := hpc 2 _ rfl
        have q3 := hpc 3 _ rfl
        have q4 := hpc 4 _ rfl
        have q5 := hpc 5 _ rfl
        rw [Nat.add_zero] at q0
        have j2 : (k : Int) < (n : Int) := by omega
        have j3 : (0 : Int) ≤ (k : Int) := by omega
        have hcx := hHr.use HBX.out
        have HHR := Lib.hid hHr
        have HX := Lib.hid hx
        have HALL := Lib.hid hall
        clear hHr hpc hx hp hall
        go_wp2_with fail
        refine (begfn_ok x p b o _ hcx).mono ?_
        rintro e w3 ⟨rfl, hb3⟩
        have H3 := Lib.hid (HHR.out.below hb3 (Nat.le_refl _))
        clear hb3
        by_cases hxo : x.b = o
        · have hbq : (x.b == o) = true := by simp [hxo]
          rw [hbq]
          have hix : idxB o G.l = (k : Int) := by
            unfold idxB
            rw [← take_split G.l k hkl, idxO_some o _ _ _ HALL.out (by rw [HX.out]; exact hxo), List.length_take, Nat.min_eq_left (by omega)]
          have HIX := Lib.hid hix
          clear hxo hbq hix
          go_wp2_with fail
          go_ret
          exact ⟨by rw [HIX.out]; rfl, H3.out⟩
        · have hbq : (x.b == o) = false := by simp [hxo]
          rw [hbq]
          have hall2 : ∀ y, y ∈ G.l.take (k + 1) → y.b ≠ o := fun y hy => by
            rw [take_next _ k hkl] at hy
            rcases List.mem_append.1 hy with hy | hy
            · exact HALL.out y hy
            · rw [List.mem_singleton.1 hy, HX.out]; exact hxo
          have HALL2 := Lib.hid hall2
          clear hxo hbq hall2
          go_wp2_with fail
          go_roundg gj
          case measure => omega
          case rel => exact ⟨k + 1, by omega, by simp, HALL2.out, H3.out⟩
      · have hkn : k = n := by omega
        have e : G.l.take k = G.l := by rw [hkn, ← HN.out]; exact List.take_length
        rw [e] at hall
        have hix : idxB o G.l = -1 := by unfold idxB; rw [idxO_none o _ hall]
        have HIX := Lib.hid hix
        have HHR := Lib.hid hHr
        clear hall hix e hHr
        go_wp2_with fail
        go_ret
        exact ⟨by rw [HIX.out]; rfl, HHR.out⟩

set_option maxRecDepth 100000 in
theorem contbeg_ok (hG : SgM s G A) (hW : SgW G) (lv : Value) (h4 : w.cell? ⟨s, 4, none⟩ = some lv) (b : Nat) (o : Int) (hb : P.m b = some (.cells #[.int .i64 o] 2 (0, 0))) (hH : Hp w P (A ++ F)) :
    Calls Tryz.prog 131 #[lv, begFn b] w fun e w' => e = .returned (.bool (G.l.any (fun x => x.b == o))) ∧ Hp w' P (A ++ F) := by
  obtain ⟨q, hq⟩ : ∃ q, idxB o G.l = q := ⟨_, rfl⟩
  have hr : decide (0 ≤ q) = G.l.any (fun x => x.b == o) := by
    rw [← hq]
    have := idxB_neg o G.l
    cases h : G.l.any (fun x => x.b == o) <;> simp [h] at this ⊢ <;> omega
  have HR := Lib.hid hr
  have HQ := Lib.hid hq
  clear hr hq
  go_enter Tryz.func131, Tryz.ntmps131
  go_wp2_with fail
  refine (idxbeg_ok hG hW lv h4 b o hb hH).mono ?_
  rintro e w2 ⟨rfl, hH2⟩
  rw [HQ.out]
  go_wp2_with fail
  go_ret
  exact ⟨by rw [← HR.out]; rfl, hH2⟩

set_option maxRecDepth 100000 in
set_option maxHeartbeats 1000000 in
theorem sbegins_ok (hG : SgM s G A) (hW : SgW G) (o : Int) (hH : Hp w P (A ++ F)) :
    Calls Tryz.prog 95 #[ptr s, .int .i64 o] w fun e w' => e = .returned (.bool (G.has o)) ∧ ∃ P', Sub P P' ∧ Hp w' P' (A ++ F) := by
  obtain ⟨P1, hs1, hH1, hm1⟩ := hH.lay (.cells #[.int .i64 o] 2)
  have hbx : Pers P1 (fun w' => w'.cell? ⟨w.heap.size, 0, none⟩ = some (.int .i64 o)) := fun w' hw => by
    have := hw.m _ _ hm1
    simp [World.cell?, this]
  obtain ⟨en, hen⟩ : ∃ e, G.end_ = e := ⟨_, rfl⟩
  obtain ⟨q, hq⟩ : ∃ q, G.l.any (fun x => x.b == o) = q := ⟨_, rfl⟩
  obtain ⟨lv, Al, hA, hr⟩ := id hG
  have hlo : lv.oneCell' = true := by obtain ⟨a, c, rfl⟩ := hr.shape; rfl
  have c4 : ∀ w P F, Hp w P (A ++ F) → w.cell? ⟨s, 4, none⟩ = some lv := fun w P F hH => hH.cell (b := s) (c := sgCells G lv) (t := 104) (fr := (0, 0)) (by simp [hA]) rfl
  have hbl : s < w.heap.size := World.block_lt_of_cell? _ _ (c4 _ _ _ hH)
  have HW := Lib.hid hW
  have HBX := Lib.hid hbx
  have HM1 := Lib.hid hm1
  have HS1 := Lib.hid hs1
  have H1 := Lib.hid hH1
  have HEN := Lib.hid hen
  have HQ := Lib.hid hq
  have HC4 := Lib.hid c4
  by_cases hoe : o = en
  · have hres : G.has o = true := by unfold Sg.has; rw [hen, hoe]; simp
    rw [hres]
    have HOE := Lib.hid hoe
    clear hH hW hen hH1 hm1 hs1 hbx hq hA hr c4 hoe hres
    go_enter Tryz.func95, Tryz.ntmps95
    go_wp2_with fail
    refine wp_region_hp (by kernel_rfl) (by decide) _ _ H1.out (fun i _ v => match i with | 0 => v = .int .i64 o | 1 => v = ptr s | 2 => v = .int .i64 en | 3 => v = .bool true | 4 => v = .bool true | 5 => v = undef | 6 => v = undef | 7 => v = undef | 8 => v = undef | 9 => v = undef | 10 => v = undef | 11 => v = .bool true | 12 => v = .bool true | _ => True) (by intro i P P' v _ h; exact h) ?_ ?_
    · intro i o ho u wq Pq hsq hHq hp K hK
      rcases i with _ | _ | _ | _ | _ | _ | _ | _ | _ | _ | _ | _ | _ | i
      · cases ho
        simp only [frOf, Act.put, List.setIfInBounds_toArray, List.set_cons_zero, List.set_cons_succ, Nat.zero_add, Nat.reduceAdd] at hK ⊢
        have kb : wq.cell? ⟨w.heap.size, 0, none⟩ = some (.int .i64 o) := hHq.use (HBX.out.sub hsq)
        go_simp
        exact hK _ wq Pq (Sub.refl _) hHq rfl
      · cases ho
        simp only [frOf, Act.put, List.setIfInBounds_toArray, List.set_cons_zero, List.set_cons_succ, Nat.zero_add, Nat.reduceAdd] at hK ⊢
        go_simp
        exact hK _ wq Pq (Sub.refl _) hHq rfl
      · cases ho
        have h1 : u 1 = ptr s := hp ⟨1, .data⟩ (by simp) rfl
        simp only [frOf, Act.put, List.setIfInBounds_toArray, List.set_cons_zero, List.set_cons_succ, Nat.zero_add, Nat.reduceAdd] at hK ⊢
        simp only [h1] at hK ⊢
        go_simp
        with_reducible refine (end_any hG HW.out hHq).mono ?_
        rintro e w3 ⟨rfl, hH3⟩
        rw [HEN.out]
        exact hK _ w3 Pq (Sub.refl _) hH3 rfl
      · cases ho
        have h0 : u 0 = .int .i64 o := hp ⟨0, .data⟩ (by simp) rfl
        have h2 : u 2 = .int .i64 en := hp ⟨2, .data⟩ (by simp) rfl
        simp only [frOf, Act.put, List.setIfInBounds_toArray, List.set_cons_zero, List.set_cons_succ, Nat.zero_add, Nat.reduceAdd] at hK ⊢
        simp only [h0, h2] at hK ⊢
        go_simp
        exact hK _ wq Pq (Sub.refl _) hHq (by simp [HOE.out])
      · cases ho
        have h3 : u 3 = .bool true := hp ⟨3, .data⟩ (by simp) rfl
        simp only [frOf, Act.put, List.setIfInBounds_toArray, List.set_cons_zero, List.set_cons_succ, Nat.zero_add, Nat.reduceAdd] at hK ⊢
        simp only [h3] at hK ⊢
        go_simp
        exact hK _ wq Pq (Sub.refl _) hHq rfl
      · cases ho
        have h4 : u 4 = .bool true := hp ⟨4, .guard⟩ (by simp) rfl
        simp only [frOf, Act.put, List.setIfInBounds_toArray, List.set_cons_zero, List.set_cons_succ, Nat.zero_add, Nat.reduceAdd] at hK ⊢
        simp only [h4]
        first | exact trivial | (go_simp; done) | (rw [if_neg (by decide)]; trivial) | (rw [if_neg (Bool.not_eq_true _ ▸ (by kernel_rfl))]; trivial)
      · cases ho
        have h5 : u 5 = undef := hp ⟨5, .data⟩ (by simp) rfl
        have h4 : u 4 = .bool true := hp ⟨4, .guard⟩ (by simp) rfl
        simp only [frOf, Act.put, List.setIfInBounds_toArray, List.set_cons_zero, List.set_cons_succ, Nat.zero_add, Nat.reduceAdd] at hK ⊢
        simp only [h5, h4]
        first | exact trivial | (go_simp; done) | (rw [if_neg (by decide)]; trivial) | (rw [if_neg (Bool.not_eq_true _ ▸ (by kernel_rfl))]; trivial)
      · cases ho
        have h6 : u 6 = undef := hp ⟨6, .data⟩ (by simp) rfl
        have h4 : u 4 = .bool true := hp ⟨4, .guard⟩ (by simp) rfl
        simp only [frOf, Act.put, List.setIfInBounds_toArray, List.set_cons_zero, List.set_cons_succ, Nat.zero_add, Nat.reduceAdd] at hK ⊢
        simp only [h6, h4]
        first | exact trivial | (go_simp; done) | (rw [if_neg (by decide)]; trivial) | (rw [if_neg (Bool.not_eq_true _ ▸ (by kernel_rfl))]; trivial)
      · cases ho
        have h7 : u 7 = undef := hp ⟨7, .data⟩ (by simp) rfl
        have h4 : u 4 = .bool true := hp ⟨4, .guard⟩ (by simp) rfl
        simp only [frOf, Act.put, List.setIfInBounds_toArray, List.set_cons_zero, List.set_cons_succ, Nat.zero_add, Nat.reduceAdd] at hK ⊢
        simp only [h7, h4]
        first | exact trivial | (go_simp; done) | (rw [if_neg (by decide)]; trivial) | (rw [if_neg (Bool.not_eq_true _ ▸ (by kernel_rfl))]; trivial)
      · cases ho
        have h4 : u 4 = .bool true := hp ⟨4, .guard⟩ (by simp) rfl
        simp only [frOf, Act.put, List.setIfInBounds_toArray, List.set_cons_zero, List.set_cons_succ, Nat.zero_add, Nat.reduceAdd] at hK ⊢
        simp only [h4]
        first | exact trivial | (go_simp; done) | (rw [if_neg (by decide)]; trivial) | (rw [if_neg (Bool.not_eq_true _ ▸ (by kernel_rfl))]; trivial)
      · cases ho
        have h8 : u 8 = undef := hp ⟨8, .data⟩ (by simp) rfl
        have h9 : u 9 = undef := hp ⟨9, .data⟩ (by simp) rfl
        have h4 : u 4 = .bool true := hp ⟨4, .guard⟩ (by simp) rfl
        simp only [frOf, Act.put, List.setIfInBounds_toArray, List.set_cons_zero, List.set_cons_succ, Nat.zero_add, Nat.reduceAdd] at hK ⊢
        simp only [h8, h9, h4]
        first | exact trivial | (go_simp; done) | (rw [if_neg (by decide)]; trivial) | (rw [if_neg (Bool.not_eq_true _ ▸ (by kernel_rfl))]; trivial)
      · cases ho
        have h4 : u 4 = .bool true := hp ⟨4, .data⟩ (by simp) rfl
        have h10 : u 10 = undef := hp ⟨10, .data⟩ (by simp) rfl
        simp only [frOf, Act.put, List.setIfInBounds_toArray, List.set_cons_zero, List.set_cons_succ, Nat.zero_add, Nat.reduceAdd] at hK ⊢
        simp only [h4, h10] at hK ⊢
        go_simp
        exact hK _ wq Pq (Sub.refl _) hHq rfl
      · cases ho
        have h11 : u 11 = .bool true := hp ⟨11, .data⟩ (by simp) rfl
        simp only [frOf, Act.put, List.setIfInBounds_toArray, List.set_cons_zero, List.set_cons_succ, Nat.zero_add, Nat.reduceAdd] at hK ⊢
        simp only [h11] at hK ⊢
        go_simp
        exact hK _ wq Pq (Sub.refl _) hHq rfl
      · exact absurd ho (by simp)
    intro u wq Pq hsq hHq hR
    have h12 : u 12 = .bool true := hR 12 (by decide)
    simp only [frOf, List.setIfInBounds_toArray, List.set_cons_zero, List.set_cons_succ, Nat.zero_add, Nat.reduceAdd]
    simp only [h12]
    have H3 := Lib.hid (hHq.weaken hsq)
    clear hR hHq hsq h12
    go_wp2_with fail
    go_ret
    exact ⟨rfl, P1, HS1.out, H3.out⟩
  · have hres : G.has o = q := by unfold Sg.has; rw [hen, hq, show (o == en) = false from beq_eq_false_iff_ne.2 hoe, Bool.false_or]
    rw [hres]
    have HOE := Lib.hid (show (o == en) = false from beq_eq_false_iff_ne.2 hoe)
    clear hH hW hen hH1 hm1 hs1 hbx hq hA hr c4 hoe hres
    go_enter Tryz.func95, Tryz.ntmps95
    go_wp2_with fail
    refine wp_region_hp (by kernel_rfl) (by decide) _ _ H1.out (fun i _ v => match i with | 0 => v = .int .i64 o | 1 => v = ptr s | 2 => v = .int .i64 en | 3 => v = .bool false | 4 => v = .bool false | 5 => v = ptr s | 6 => v = ptr s | 7 => v = .pointer (some ⟨s, 4, none⟩) | 8 => v = lv | 9 => v = begFn w.heap.size | 10 => v = .bool q | 11 => v = .bool q | 12 => v = .bool q | _ => True) (by intro i P P' v _ h; exact h) ?_ ?_
    · intro i o ho u wq Pq hsq hHq hp K hK
      rcases i with _ | _ | _ | _ | _ | _ | _ | _ | _ | _ | _ | _ | _ | i
      · cases ho
        simp only [frOf, Act.put, List.setIfInBounds_toArray, List.set_cons_zero, List.set_cons_succ, Nat.zero_add, Nat.reduceAdd] at hK ⊢
        have kb : wq.cell? ⟨w.heap.size, 0, none⟩ = some (.int .i64 o) := hHq.use (HBX.out.sub hsq)
        go_simp
        exact hK _ wq Pq (Sub.refl _) hHq rfl
      · cases ho
        simp only [frOf, Act.put, List.setIfInBounds_toArray, List.set_cons_zero, List.set_cons_succ, Nat.zero_add, Nat.reduceAdd] at hK ⊢
        go_simp
        exact hK _ wq Pq (Sub.refl _) hHq rfl
      · cases ho
        have h1 : u 1 = ptr s := hp ⟨1, .data⟩ (by simp) rfl
        simp only [frOf, Act.put, List.setIfInBounds_toArray, List.set_cons_zero, List.set_cons_succ, Nat.zero_add, Nat.reduceAdd] at hK ⊢
        simp only [h1] at hK ⊢
        go_simp
        with_reducible refine (end_any hG HW.out hHq).mono ?_
        rintro e w3 ⟨rfl, hH3⟩
        rw [HEN.out]
        exact hK _ w3 Pq (Sub.refl _) hH3 rfl
      · cases ho
        have h0 : u 0 = .int .i64 o := hp ⟨0, .data⟩ (by simp) rfl
        have h2 : u 2 = .int .i64 en := hp ⟨2, .data⟩ (by simp) rfl
        simp only [frOf, Act.put, List.setIfInBounds_toArray, List.set_cons_zero, List.set_cons_succ, Nat.zero_add, Nat.reduceAdd] at hK ⊢
        simp only [h0, h2] at hK ⊢
        go_simp
        exact hK _ wq Pq (Sub.refl _) hHq (by simp [HOE.out])
      · cases ho
        have h3 : u 3 = .bool false := hp ⟨3, .data⟩ (by simp) rfl
        simp only [frOf, Act.put, List.setIfInBounds_toArray, List.set_cons_zero, List.set_cons_succ, Nat.zero_add, Nat.reduceAdd] at hK ⊢
        simp only [h3] at hK ⊢
        go_simp
        exact hK _ wq Pq (Sub.refl _) hHq rfl
      · cases ho
        have h4 : u 4 = .bool false := hp ⟨4, .guard⟩ (by simp) rfl
        simp only [frOf, Act.put, List.setIfInBounds_toArray, List.set_cons_zero, List.set_cons_succ, Nat.zero_add, Nat.reduceAdd] at hK ⊢
        simp only [h4] at hK ⊢
        go_simp
        exact hK _ wq Pq (Sub.refl _) hHq rfl
      · cases ho
        have h5 : u 5 = ptr s := hp ⟨5, .data⟩ (by simp) rfl
        have h4 : u 4 = .bool false := hp ⟨4, .guard⟩ (by simp) rfl
        simp only [frOf, Act.put, List.setIfInBounds_toArray, List.set_cons_zero, List.set_cons_succ, Nat.zero_add, Nat.reduceAdd] at hK ⊢
        simp only [h5, h4] at hK ⊢
        go_simp
        exact hK _ wq Pq (Sub.refl _) hHq rfl
      · cases ho
        have h6 : u 6 = ptr s := hp ⟨6, .data⟩ (by simp) rfl
        have h4 : u 4 = .bool false := hp ⟨4, .guard⟩ (by simp) rfl
        simp only [frOf, Act.put, List.setIfInBounds_toArray, List.set_cons_zero, List.set_cons_succ, Nat.zero_add, Nat.reduceAdd] at hK ⊢
        simp only [h6, h4] at hK ⊢
        go_simp
        exact hK _ wq Pq (Sub.refl _) hHq rfl
      · cases ho
        have h7 : u 7 = .pointer (some ⟨s, 4, none⟩) := hp ⟨7, .data⟩ (by simp) rfl
        have h4 : u 4 = .bool false := hp ⟨4, .guard⟩ (by simp) rfl
        simp only [frOf, Act.put, List.setIfInBounds_toArray, List.set_cons_zero, List.set_cons_succ, Nat.zero_add, Nat.reduceAdd] at hK ⊢
        simp only [h7, h4] at hK ⊢
        have k4 := HC4.out _ _ _ hHq
        go_simp
        exact hK _ wq Pq (Sub.refl _) hHq rfl
      · cases ho
        have h4 : u 4 = .bool false := hp ⟨4, .guard⟩ (by simp) rfl
        simp only [frOf, Act.put, List.setIfInBounds_toArray, List.set_cons_zero, List.set_cons_succ, Nat.zero_add, Nat.reduceAdd] at hK ⊢
        simp only [h4] at hK ⊢
        go_simp
        exact hK _ wq Pq (Sub.refl _) hHq rfl
      · cases ho
        have h8 : u 8 = lv := hp ⟨8, .data⟩ (by simp) rfl
        have h9 : u 9 = begFn w.heap.size := hp ⟨9, .data⟩ (by simp) rfl
        have h4 : u 4 = .bool false := hp ⟨4, .guard⟩ (by simp) rfl
        simp only [frOf, Act.put, List.setIfInBounds_toArray, List.set_cons_zero, List.set_cons_succ, Nat.zero_add, Nat.reduceAdd] at hK ⊢
        simp only [h8, h9, h4] at hK ⊢
        go_simp
        with_reducible refine (contbeg_ok hG HW.out lv (HC4.out _ _ _ hHq) w.heap.size o (hsq.m _ _ HM1.out) hHq).mono ?_
        rintro e w3 ⟨rfl, hH3⟩
        rw [HQ.out]
        exact hK _ w3 Pq (Sub.refl _) hH3 rfl
      · cases ho
        have h4 : u 4 = .bool false := hp ⟨4, .data⟩ (by simp) rfl
        have h10 : u 10 = .bool q := hp ⟨10, .data⟩ (by simp) rfl
        simp only [frOf, Act.put, List.setIfInBounds_toArray, List.set_cons_zero, List.set_cons_succ, Nat.zero_add, Nat.reduceAdd] at hK ⊢
        simp only [h4, h10] at hK ⊢
        go_simp
        exact hK _ wq Pq (Sub.refl _) hHq rfl
      · cases ho
        have h11 : u 11 = .bool q := hp ⟨11, .data⟩ (by simp) rfl
        simp only [frOf, Act.put, List.setIfInBounds_toArray, List.set_cons_zero, List.set_cons_succ, Nat.zero_add, Nat.reduceAdd] at hK ⊢
        simp only [h11] at hK ⊢
        go_simp
        exact hK _ wq Pq (Sub.refl _) hHq rfl
      · exact absurd ho (by simp)
    intro u wq Pq hsq hHq hR
    have h12 : u 12 = .bool q := hR 12 (by decide)
    simp only [frOf, List.setIfInBounds_toArray, List.set_cons_zero, List.set_cons_succ, Nat.zero_add, Nat.reduceAdd]
    simp only [h12]
    have H3 := Lib.hid (hHq.weaken hsq)
    clear hR hHq hsq h12
    go_wp2_with fail
    go_ret
    exact ⟨rfl, P1, HS1.out, H3.out⟩
end

/-! ### the segments of a log -/
section
variable {S : List Nat} {E : Nat → Addr} {B : Nat} {P : Pm} {h s : Nat} {H : Hl} {A F : Mm} {w : World}
abbrev endFn (b : Nat) : Value := .func (.func 94) #[] #[ptr b]
theorem endfn_ok {G : Sg} (hG : SgM s G A) (hW : SgW G) (b : Nat) (o : Int) (hc : w.cell? ⟨b, 0, none⟩ = some (.int .i64 o)) (hH : Hp w P (A ++ F)) :
    Calls Tryz.prog 94 #[ptr s, ptr b] w fun e w' => e = .returned (.bool (G.has o)) ∧ ∃ P', Sub P P' ∧ Hp w' P' (A ++ F) := by
  go_enter Tryz.func94, Tryz.ntmps94
  go_wp2_with fail
  refine (sbegins_ok hG hW o hH).mono ?_
  rintro e w2 ⟨rfl, P2, hs2, hH2⟩
  go_wp2_with fail
  go_ret
  exact ⟨rfl, P2, hs2, hH2⟩

set_option maxRecDepth 100000 in
set_option maxHeartbeats 1000000 in
theorem idxseg_ok (hM : HlM h H A) (hW : HlW H) (a : Option Addr) (c : Nat) (h3 : w.cell? ⟨h, 3, none⟩ = some (.slice a H.L.length c)) (b : Nat) (o : Int) (hb : P.m b = some (.cells #[.int .i64 o] 2 (0, 0))) (hH : Hp w P (A ++ F)) :
    Calls Tryz.prog 130 #[.slice a H.L.length c, endFn b] w fun e w' => ∃ q : Int, e = .returned (.int .i64 q) ∧ decide (0 ≤ q) = H.L.any (fun p => p.2.has o) ∧ ∃ P', Sub P P' ∧ Hp w' P' (A ++ F) := by
  have hbx : Pers P (fun w => w.cell? ⟨b, 0, none⟩ = some (.int .i64 o)) := fun w hw => by
    have := hw.m _ _ hb
    simp [World.cell?, this]
  obtain ⟨n, hn⟩ : ∃ n, H.L.length = n := ⟨_, rfl⟩
  have hnl := hW.n
  obtain ⟨a', c', hc, hat⟩ := hM.at_
  obtain ⟨-, -, -, d3, -, -, -⟩ := hat w P _ hH
  rw [d3] at h3
  cases h3
  rw [hn] at hc hnl ⊢
  have H0 := Lib.hid hH
  have HN := Lib.hid hn
  have HP := Lib.hid hat
  have HBX := Lib.hid hbx
  clear hH hn hat d3 hb hbx
  go_enter Tryz.func130, Tryz.ntmps130
  go_wp2_with fail
  go_loopg [8] n (fun m vi wr => ∃ (k : Nat) (P' : Pm), k + m = n ∧ vi = .int .i64 k ∧ Sub P P' ∧ (∀ p, p ∈ H.L.take k → p.2.has o = false) ∧ Hp wr P' (A ++ F))
  case atStart => exact ⟨0, P, by omega, rfl, Sub.refl _, by simp, H0.out⟩
  case round =>
    obtain ⟨k, P1, hk, rfl, hs1, hall, hHr⟩ := hrel
    by_cases hlt : k < n
    · obtain ⟨gj, rfl⟩ : ∃ x, gk = x + 1 := ⟨gk - 1, by omega⟩
      have hkl : k < H.L.length := by rw [HN.out]; exact hlt
      obtain ⟨g, hga, hgc⟩ := (HP.out wr P1 _ hHr).2.2.2.2.2.2 k hkl
      subst hga
      obtain ⟨s, hs⟩ : ∃ s, (H.L[k]).1 = s := ⟨_, rfl⟩
      obtain ⟨G, hG⟩ : ∃ G, (H.L[k]).2 = G := ⟨_, rfl⟩
      rw [hs] at hgc
      have hL : H.L = H.L.take k ++ (s, G) :: H.L.drop (k + 1) := by rw [← hs, ← hG]; exact (take_split H.L k hkl).symm
      obtain ⟨A1, R, hG1, hp, -⟩ := hM.focus hL
      have hW1 : SgW G := by rw [← hG]; exact hW.g _ (List.getElem_mem hkl)
      have j2 : (k : Int) < (n : Int) := by omega
      have j3 : (0 : Int) ≤ (k : Int) := by omega
      have hcx := hHr.use (HBX.out.sub hs1)
      have HHR := Lib.hid (hHr.perm (hp F))
      have HPP := Lib.hid hp
      have HALL := Lib.hid hall
      have HS1 := Lib.hid hs1
      have HK2 := Lib.hid (show (H.L[k]).2 = G from hG)
      clear hHr hp hall hs1 hs hG hL
      go_wp2_with fail
      refine (endfn_ok hG1 hW1 b o hcx HHR.out).mono ?_
      rintro e w3 ⟨rfl, P3, hs3, hH3⟩
      have H3 := Lib.hid (hH3.perm (HPP.out F).symm)
      have HS3 := Lib.hid (HS1.out.trans hs3)
      clear hH3 hs3
      cases hx : G.has o with
      | true =>
        have hany : H.L.any (fun p => p.2.has o) = true := List.any_eq_true.2 ⟨H.L[k], List.getElem_mem hkl, by rw [HK2.out]; exact hx⟩
        have HAN := Lib.hid hany
        clear hx hany
        go_wp2_with fail
        go_ret
        exact ⟨_, rfl, by rw [HAN.out]; simp, P3, HS3.out, H3.out⟩
      | false =>
        have hall2 : ∀ p, p ∈ H.L.take (k + 1) → p.2.has o = false := fun p hp => by
          rw [take_next _ k hkl] at hp
          rcases List.mem_append.1 hp with hp | hp
          · exact HALL.out p hp
          · rw [List.mem_singleton.1 hp, HK2.out]; exact hx
        have HALL2 := Lib.hid hall2
        clear hx hall2
        go_wp2_with fail
        go_roundg gj
        case measure => omega
        case rel => exact ⟨k + 1, P3, by omega, by simp, HS3.out, HALL2.out, H3.out⟩
    · have hkn : k = n := by omega
      have e : H.L.take k = H.L := by rw [hkn, ← HN.out]; exact List.take_length
      rw [e] at hall
      have hany : H.L.any (fun p => p.2.has o) = false := by
        rw [List.any_eq_false]
        intro p hp
        rw [hall p hp]; simp
      have HAN := Lib.hid hany
      have HHR := Lib.hid hHr
      have HS1 := Lib.hid hs1
      clear hall hany e hHr hs1
      go_wp2_with fail
      go_ret
      exact ⟨_, rfl, by rw [HAN.out]; simp, P1, HS1.out, HHR.out⟩

set_option maxRecDepth 100000 in
theorem contseg_ok (hM : HlM h H A) (hW : HlW H) (a : Option Addr) (c : Nat) (h3 : w.cell? ⟨h, 3, none⟩ = some (.slice a H.L.length c)) (b : Nat) (o : Int) (hb : P.m b = some (.cells #[.int .i64 o] 2 (0, 0))) (hH : Hp w P (A ++ F)) :
    Calls Tryz.prog 93 #[.slice a H.L.length c, endFn b] w fun e w' => e = .returned (.bool (H.L.any (fun p => p.2.has o))) ∧ ∃ P', Sub P P' ∧ Hp w' P' (A ++ F) := by
  obtain ⟨n, hn⟩ : ∃ n, H.L.length = n := ⟨_, rfl⟩
  have hi := idxseg_ok hM hW a c h3 b o hb hH
  rw [hn] at hi ⊢
  have HI := Lib.hid hi
  clear hi hn h3
  go_enter Tryz.func93, Tryz.ntmps93
  go_wp2_with fail
  refine HI.out.mono ?_
  rintro e w2 ⟨q, rfl, hq, P2, hs2, hH2⟩
  have HQ := Lib.hid hq
  clear hq
  go_wp2_with fail
  go_ret
  exact ⟨by rw [← HQ.out]; rfl, P2, hs2, hH2⟩
end
end Go.Proofs.YtncjffkpkmjgkaaGreatDoor.Sg

/-! Se -/
namespace Go.Proofs.YtncjffkpkmjgkaaGreatDoor.Sg
open Go.RowKit Er Go.Maps

theorem placesV_take : ∀ (l : List Bt) (p k : Nat), k ≤ l.length → (placesV p l).take (k * 6) = placesV p (l.take k)
  | [], p, k, h => by simp at h; subst h; rfl
  | x :: l, p, 0, _ => by simp [placesV]
  | x :: l, p, k + 1, h => by
    show (placeL p x ++ placesV (p + szB x) l).take ((k + 1) * 6) = placeL p x ++ placesV (p + szB x) (l.take k)
    rw [show (k + 1) * 6 = (placeL p x).length + k * 6 from by simp [placeL]; omega, List.take_length_add_append, placesV_take l _ k (by simpa using h)]
theorem placesV_one : ∀ (l : List Bt) (p : Nat), ∀ u ∈ placesV p l, u.oneCell' = true
  | [], p, u, h => by simp [placesV] at h
  | x :: l, p, u, h => by
    rcases List.mem_append.1 (show u ∈ placeL p x ++ placesV (p + szB x) l from h) with h | h
    · simp [placeL] at h
      rcases h with rfl | rfl | rfl | rfl | rfl | rfl <;> rfl
    · exact placesV_one l _ u h
section
variable {S : List Nat} {E : Nat → Addr} {B : Nat} {P : Pm} {s : Nat} {G : Sg} {D : Dk} {A Ad F : Mm} {w : World}

set_option maxRecDepth 100000 in
set_option maxHeartbeats 400000 in
theorem clonepl_ok (g k cap : Nat) (xs : List Value) (hl : xs.length = k * 6) (hone : ∀ u ∈ xs, u.oneCell' = true) (hcell : ∀ (j : Nat) u, xs[j]? = some u → w.cell? ⟨g, j, none⟩ = some u) (hk : k ≤ 1000000) (hH : Hp w P F) :
    Calls Tryz.prog 135 #[.slice (some ⟨g, 0, none⟩) k cap] w fun e w' => ∃ v A', e = .returned v ∧ RowM 112 6 v k xs A' ∧ Hp w' P (A' ++ F) := by
  have hq := fun (w : World) => Lib.run_eql_slice_nil (P := Tryz.prog) w 102 112 (some ⟨g, 0, none⟩) k cap 0 0 Tryz.underlying102
  obtain ⟨i0, hi0, hz0, hz1, hz2⟩ := info_parts infoPl
  have HI := Lib.hid hi0
  have hown := World.ownsRow_made (base := w.heap.size) (e := 112) (size := 6) w #[] 0 (Nat.le_refl _) (by unfold maxLen; omega) rfl
  have HO := Lib.hid hown
  have hc2 : ∀ (j : Nat) u, xs[j]? = some u → (w.alloc (.cells #[] 112)).cell? ((⟨g, 0, none⟩ : Addr).add j) = some u := fun j u hu => by
    have h1 := hcell j u hu
    have hg := World.block_lt_of_cell? _ _ h1
    rw [addr_add]
    have hb : Below w.heap.size w (w.alloc (.cells #[] 112)) := (Below.refl _ _).alloc (Nat.le_refl _) _
    exact (hb.cell (p := ⟨g, j, none⟩) hg).trans h1
  have HC := Lib.hid hc2
  have HONE := Lib.hid hone
  have HL := Lib.hid hl
  have H0 := Lib.hid hH
  clear hi0 hown hcell hc2 hone hl hH
  go_enter Tryz.func135, Tryz.ntmps135
  go_wp2_with (at_builtin; refine wpList_append_own_at _ rfl _ _ 102 rfl w.heap.size 112 i0 (.agg #[.int .i64 0, .int .i64 0, .int .i64 0, .int .i64 0, .int .i64 0, .int .i64 0]) 6 48 Tryz.underlying102 HI.out hz0 hz1 hz2 rfl (by decide) _ 0 [] rfl HO.out ⟨g, 0, none⟩ k cap xs rfl HL.out HC.out HONE.out ?c3 ?c4 ?c5 ?_)
  case c3 => unfold maxLen; omega
  case c4 => omega
  case c5 => simp
  intro v2 w4 hown' hgrow _ hat'
  have HO4 := Lib.hid hown'
  have HG := Lib.hid hgrow
  clear hown' hgrow hat'
  go_wp2_with fail
  go_ret
  have hb : Below w.heap.size w w4 := ((Below.refl _ _).alloc (Nat.le_refl _) _).grown HG.out (by simp) (fun k hk => by simp [Value.ownBlock] at hk; omega)
  have hown : w4.ownsRow w.heap.size 112 6 v2 k xs := by
    have := HO4.out
    simpa using this
  obtain ⟨A', hr, hH'⟩ := H0.out.rowNew (H0.out.below hb (Nat.le_refl _)) hown (Nat.le_refl _)
  exact ⟨v2, A', rfl, hr, hH'⟩

/-- A segment that is cut behind so many batches. -/
def Sg.cutK (G : Sg) (k : Nat) : Sg := { G with l := G.l.take k, kept := sizes (G.l.take k) }

set_option maxRecDepth 100000 in
set_option maxHeartbeats 2000000 in
/-- Cut where a batch begins, or at the end. -/
theorem scut_k (C : Ctx S E B P) (hok : D.ok = true) (hG : SgM s G A) (hO : SegOn D.un G) (hD : DkM P G.d D Ad) (k : Nat) (o : Int) (hne : G.l ≠ []) (hko : (∃ y, G.l[k]? = some y ∧ y.b = o ∧ ∀ z ∈ G.l.take k, z.b ≠ o) ∨ (k = G.l.length ∧ o = G.end_ ∧ ∀ z ∈ G.l, z.b ≠ o)) (hH : Hp w P (A ++ (Ad ++ F))) :
    Calls Tryz.prog 96 #[ptr s, .int .i64 o] w fun e w' => e = .returned .nilIface ∧ ∃ P' A' Ad' D', Sub P P' ∧ SgM s (G.cutK k) A' ∧ DkM P' G.d D' Ad' ∧ SegOn D'.un (G.cutK k) ∧ DkSame D.un D'.un ∧ D'.used ≤ D.used ∧
      (∀ s', s' ≠ G.nm → D'.look s' = D.look s') ∧ PowOn D D' ∧ Hp w' P' (A' ++ (Ad' ++ F)) := by
  have hkl : k ≤ G.l.length := by
    rcases hko with ⟨y, h, -⟩ | ⟨h, -⟩
    · exact Nat.le_of_lt (List.getElem?_eq_some_iff.1 h).1
    · omega
  obtain ⟨f, h1, h2, h3⟩ := hO.f
  have hr := hO.room
  have hu := hO.used
  have hnm := hO.nm
  have hW := hO.W
  have hfl : f.b.length = sizes G.l := by rw [h2, flatB_len]
  have hsk : sizes (G.l.take k) ≤ sizes G.l := by
    have := sizes_mono G.l k G.l.length hkl
    rwa [List.take_length] at this
  have hft : f.b.take (sizes (G.l.take k)) = flatB (G.l.take k) := by
    have e : flatB G.l = flatB (G.l.take k) ++ flatB (G.l.drop k) := by rw [← flatB_app, List.take_append_drop]
    rw [h2, e, ← flatB_len]
    exact List.take_left
  have hus := cut_used hO.I h1 (sizes (G.l.take k)) (by omega)
  have hO2 : SegOn (D.un.cut f (sizes (G.l.take k))) (G.cutK k) := ⟨cut_I hO.I f _, fun x hx => hO.ok x (List.mem_of_mem_take hx), fun x hx => hO.by_ x (List.mem_of_mem_take hx), hO.base, hO.nm, ⟨{ f with b := f.b.take (sizes (G.l.take k)), s := sizes (G.l.take k) }, by show Dk.look _ G.nm = _; rw [cut_look hO.I h1, if_pos rfl], hft, rfl⟩, by rw [(cut_same hO.I f _).room]; exact hr, by rw [(cut_same hO.I f _).room]; omega⟩
  have hflen : f.b.length ≤ D.used := used_ge h1
  have hr' : D.room ≤ 4194304 := hr
  have hu' : D.used ≤ D.room := hu
  obtain ⟨g, c, hc, hpl⟩ := hG.places hne
  obtain ⟨P1, hs1, hH1, hm1⟩ := hH.lay (.cells #[.int .i64 o] 2)
  have hbx : Pers P1 (fun w' => w'.cell? ⟨w.heap.size, 0, none⟩ = some (.int .i64 o)) := fun w' hw => by
    have := hw.m _ _ hm1
    simp [World.cell?, this]
  obtain ⟨c4, -⟩ := hpl _ _ _ hH1
  have hbl : s < w.heap.size := by
    have := World.block_lt_of_cell? _ _ (hpl _ _ _ hH).1
    exact this
  have hxl : (placesV 0 (G.l.take k)).length = k * 6 := by rw [placesV_len, List.length_take, Nat.min_eq_left hkl]
  have hcl : ∀ w P F, Hp w P (A ++ F) → ∀ (j : Nat) u, (placesV 0 (G.l.take k))[j]? = some u → w.cell? ⟨g, j, none⟩ = some u := by
    intro w P F hH j u hj
    obtain ⟨lv, Al, rfl, hr⟩ := id hG
    have hj2 : (placesV 0 G.l)[j]? = some u := by
      rw [← placesV_take G.l 0 k hkl, List.getElem?_take] at hj
      split at hj
      · exact hj
      · cases hj
    have hH2 : Hp w P (Al ++ ((s, Obj.cells (sgCells G lv) 104 (0, 0)) :: F)) := Hp.mid (A := [_]) (B := Al) (C := F) hH
    obtain ⟨g', c', e, -, y⟩ := hr.cell hH2 hj2
    have e2 := (hpl w P F hH).1
    have e3 : w.cell? ⟨s, 4, none⟩ = some lv := hH.cell (b := s) (c := sgCells G lv) (t := 104) (fr := (0, 0)) (by simp) rfl
    rw [e3] at e2
    have e4 := Option.some.inj e2
    rw [e] at e4
    cases e4
    exact y
  obtain ⟨n, hn⟩ : ∃ n, G.l.length = n := ⟨_, rfl⟩
  obtain ⟨en, hen⟩ : ∃ e, G.end_ = e := ⟨_, rfl⟩
  obtain ⟨kz, hkz⟩ : ∃ z, sizes (G.l.take k) = z := ⟨_, rfl⟩
  obtain ⟨nz, hnz⟩ : ∃ z, sizes G.l = z := ⟨_, rfl⟩
  have hnl := hW.len
  rw [hn] at hc c4 hkl hnl
  rw [hkz] at hsk hO2 hus hft
  rw [hnz] at hsk hfl
  have hn0 : 0 < n := by rw [← hn]; exact List.length_pos_iff.2 hne
  have hc0 : ¬ c = 0 := by omega
  have hkc : k ≤ c := by omega
  have i1 : (k : Int) ≤ (c : Int) := by omega
  have HKZ := Lib.hid hkz
  have HNZ := Lib.hid hnz
  have hsame := cut_same hO.I f kz
  rw [← cut_un] at hO2 hsame hus
  have HSM := Lib.hid hsame
  have HUS : Hid ((D.cut f kz).used ≤ D.used) := by
    show _ ≤ _
    have e1 := un_used (D.cut f kz)
    have e2 := un_used D
    omega
  have HLK : Hid (∀ s', s' ≠ G.nm → (D.cut f kz).look s' = D.look s') := fun s' hs' => by
    have h := cut_look hO.I h1 kz s'
    rw [← cut_un, un_look, un_look, if_neg hs'] at h
    exact h
  have HF := Lib.hid (find_on hok h1)
  have HPO := Lib.hid (cut_on hok f kz)
  have HL : Hid (ffind D.fl f.blk = some f) := (look_some h1).2
  have HO2 := Lib.hid hO2
  have HW := Lib.hid hW
  have HC := Lib.hid hcl
  have HP := Lib.hid hpl
  have HX := Lib.hid hxl
  have HBX := Lib.hid hbx
  have HM1 := Lib.hid hm1
  have HS1 := Lib.hid hs1
  have H1 := Lib.hid hH1
  have HN := Lib.hid hn
  have HEN := Lib.hid hen
  have hkn : kz ≤ f.b.length := by omega
  have hfl2 : f.b.length ≤ 1099511627776 := by omega
  clear hsame hok h1 h2 h3 hH hO hO2 hfl hW hn hen hpl hH1 hm1 hs1 hbx hxl hcl hkz hnz hft hus hne
  rcases hko with ⟨y, hy, hyo, hyz⟩ | ⟨hkn2, hoe, hyz⟩
  case' inl =>
    have hklt : k < n := by rw [← HN.out]; exact (List.getElem?_eq_some_iff.1 hy).1
    have hix : idxB o G.l = (k : Int) := by
      have hkl2 : k < G.l.length := by rw [HN.out]; exact hklt
      have hyk : G.l[k] = y := by rw [List.getElem?_eq_getElem hkl2] at hy; exact Option.some.inj hy
      unfold idxB
      rw [← take_split G.l k hkl2, idxO_some o _ _ _ hyz (by rw [hyk]; exact hyo), List.length_take, Nat.min_eq_left (by omega)]
    have hy2 : ∀ w P F, Hp w P (A ++ F) → w.cell? ⟨g, k * 6 + 2, none⟩ = some (.int .i64 kz) := fun w P F hH => by
      have h1 := (HP.out w P F hH).2 k (by rw [HN.out]; exact hklt) 2 (.int .i64 (sizes (G.l.take k))) rfl
      rwa [HKZ.out] at h1
    have HY2 := Lib.hid hy2
    have HIX := Lib.hid hix
    have j1 : (0 : Int) ≤ (k : Int) := by omega
    have j2 : (k : Int) < (n : Int) := by omega
    clear hy hyo hyz hix hy2
    go_enter Tryz.func96, Tryz.ntmps96
    go_wp2_with fail
    refine (idxfn_ok hG HW.out _ c4 w.heap.size o HM1.out H1.out).mono ?_
    rintro e w2 ⟨rfl, hH2⟩
    rw [HIX.out]
    have H2 := Lib.hid hH2
    clear hH2
    go_wp2_with fail
    refine wp_region_hp (by kernel_rfl) (by decide) _ _ H2.out (fun i _ v => match i with | 0 => v = .int .i64 k | 1 => v = .bool false | 2 => v = .bool false | 3 => v = undef | 4 => v = undef | 5 => v = undef | 6 => v = undef | 7 => v = .bool false | _ => True) (by intro i P P' v _ h; exact h) ?_ ?_
    · intro i o ho u wq Pq hsq hHq hp K hK
      rcases i with _ | _ | _ | _ | _ | _ | _ | _ | i
      · cases ho
        simp only [frOf, Act.put, List.setIfInBounds_toArray, List.set_cons_zero, List.set_cons_succ, Nat.zero_add, Nat.reduceAdd] at hK ⊢
        go_simp
        exact hK _ wq Pq (Sub.refl _) hHq rfl
      · cases ho
        have h0 : u 0 = .int .i64 k := hp ⟨0, .data⟩ (by simp) rfl
        simp only [frOf, Act.put, List.setIfInBounds_toArray, List.set_cons_zero, List.set_cons_succ, Nat.zero_add, Nat.reduceAdd] at hK ⊢
        simp only [h0] at hK ⊢
        go_simp
        exact hK _ wq Pq (Sub.refl _) hHq (by simp)
      · cases ho
        have h1 : u 1 = .bool false := hp ⟨1, .data⟩ (by simp) rfl
        simp only [frOf, Act.put, List.setIfInBounds_toArray, List.set_cons_zero, List.set_cons_succ, Nat.zero_add, Nat.reduceAdd] at hK ⊢
        simp only [h1] at hK ⊢
        go_simp
        exact hK _ wq Pq (Sub.refl _) hHq rfl
      · cases ho
        have h2 : u 2 = .bool false := hp ⟨2, .guard⟩ (by simp) rfl
        simp only [frOf, Act.put, List.setIfInBounds_toArray, List.set_cons_zero, List.set_cons_succ, Nat.zero_add, Nat.reduceAdd] at hK ⊢
        simp only [h2]
        first | exact trivial | (go_simp; done) | (rw [if_neg (by decide)]; trivial) | (rw [if_neg (Bool.not_eq_true _ ▸ (by kernel_rfl))]; trivial)
      · cases ho
        have h2 : u 2 = .bool false := hp ⟨2, .guard⟩ (by simp) rfl
        simp only [frOf, Act.put, List.setIfInBounds_toArray, List.set_cons_zero, List.set_cons_succ, Nat.zero_add, Nat.reduceAdd] at hK ⊢
        simp only [h2]
        first | exact trivial | (go_simp; done) | (rw [if_neg (by decide)]; trivial) | (rw [if_neg (Bool.not_eq_true _ ▸ (by kernel_rfl))]; trivial)
      · cases ho
        have h4 : u 4 = undef := hp ⟨4, .data⟩ (by simp) rfl
        have h2 : u 2 = .bool false := hp ⟨2, .guard⟩ (by simp) rfl
        simp only [frOf, Act.put, List.setIfInBounds_toArray, List.set_cons_zero, List.set_cons_succ, Nat.zero_add, Nat.reduceAdd] at hK ⊢
        simp only [h4, h2]
        first | exact trivial | (go_simp; done) | (rw [if_neg (by decide)]; trivial) | (rw [if_neg (Bool.not_eq_true _ ▸ (by kernel_rfl))]; trivial)
      · cases ho
        have h3 : u 3 = undef := hp ⟨3, .data⟩ (by simp) rfl
        have h5 : u 5 = undef := hp ⟨5, .data⟩ (by simp) rfl
        have h2 : u 2 = .bool false := hp ⟨2, .guard⟩ (by simp) rfl
        simp only [frOf, Act.put, List.setIfInBounds_toArray, List.set_cons_zero, List.set_cons_succ, Nat.zero_add, Nat.reduceAdd] at hK ⊢
        simp only [h3, h5, h2]
        first | exact trivial | (go_simp; done) | (rw [if_neg (by decide)]; trivial) | (rw [if_neg (Bool.not_eq_true _ ▸ (by kernel_rfl))]; trivial)
      · cases ho
        have h2 : u 2 = .bool false := hp ⟨2, .data⟩ (by simp) rfl
        have h6 : u 6 = undef := hp ⟨6, .data⟩ (by simp) rfl
        simp only [frOf, Act.put, List.setIfInBounds_toArray, List.set_cons_zero, List.set_cons_succ, Nat.zero_add, Nat.reduceAdd] at hK ⊢
        simp only [h2, h6] at hK ⊢
        go_simp
        exact hK _ wq Pq (Sub.refl _) hHq rfl
      · exact absurd ho (by simp)
    intro u wq Pq hsq hHq hR
    have h7 : u 7 = .bool false := hR 7 (by decide)
    simp only [frOf, List.setIfInBounds_toArray, List.set_cons_zero, List.set_cons_succ, Nat.zero_add, Nat.reduceAdd]
    simp only [h7]
    have H3 := Lib.hid (hHq.weaken hsq)
    clear hR hHq hsq h7
    go_wp2_with fail
    refine (ssize_any hG HW.out H3.out).mono ?_
    rintro e w4 ⟨rfl, hH4⟩
    obtain ⟨d4, -⟩ := HP.out _ _ _ hH4
    rw [HN.out] at d4
    have d5 := HY2.out _ _ _ hH4
    obtain ⟨lv4, k0, k1, -, -, -, -⟩ := hG.cells hH4
    have H4 := Lib.hid hH4
    clear hH4
    go_wp2_with fail
  case' inr =>
    have hix : idxB o G.l = -1 := by unfold idxB; rw [idxO_none o _ hyz]
    have hkz2 : nz = kz := by rw [← HNZ.out, ← HKZ.out, hkn2, List.take_length]
    have hoe2 : o = en := by rw [← HEN.out]; exact hoe
    have HOE := Lib.hid hoe2
    have HIX := Lib.hid hix
    have hkn3 : k = n := by rw [hkn2]; exact HN.out
    have HZZ : Hid (sizes G.l = kz) := by show _ = _; rw [HNZ.out]; exact hkz2
    clear hkn2 hoe hyz hix hkz2 hoe2
    subst hkn3
    go_enter Tryz.func96, Tryz.ntmps96
    go_wp2_with fail
    refine (idxfn_ok hG HW.out _ c4 w.heap.size o HM1.out H1.out).mono ?_
    rintro e w2 ⟨rfl, hH2⟩
    rw [HIX.out]
    have H2 := Lib.hid hH2
    clear hH2
    go_wp2_with fail
    refine wp_region_hp (by kernel_rfl) (by decide) _ _ H2.out (fun i _ v => match i with | 0 => v = .int .i64 (-1) | 1 => v = .bool true | 2 => v = .bool true | 3 => v = .int .i64 o | 4 => v = ptr s | 5 => v = .int .i64 en | 6 => v = .bool false | 7 => v = .bool false | _ => True) (by intro i P P' v _ h; exact h) ?_ ?_
    · intro i o ho u wq Pq hsq hHq hp K hK
      rcases i with _ | _ | _ | _ | _ | _ | _ | _ | i
      · cases ho
        simp only [frOf, Act.put, List.setIfInBounds_toArray, List.set_cons_zero, List.set_cons_succ, Nat.zero_add, Nat.reduceAdd] at hK ⊢
        go_simp
        exact hK _ wq Pq (Sub.refl _) hHq rfl
      · cases ho
        have h0 : u 0 = .int .i64 (-1) := hp ⟨0, .data⟩ (by simp) rfl
        simp only [frOf, Act.put, List.setIfInBounds_toArray, List.set_cons_zero, List.set_cons_succ, Nat.zero_add, Nat.reduceAdd] at hK ⊢
        simp only [h0] at hK ⊢
        go_simp
        exact hK _ wq Pq (Sub.refl _) hHq (by rfl)
      · cases ho
        have h1 : u 1 = .bool true := hp ⟨1, .data⟩ (by simp) rfl
        simp only [frOf, Act.put, List.setIfInBounds_toArray, List.set_cons_zero, List.set_cons_succ, Nat.zero_add, Nat.reduceAdd] at hK ⊢
        simp only [h1] at hK ⊢
        go_simp
        exact hK _ wq Pq (Sub.refl _) hHq rfl
      · cases ho
        have h2 : u 2 = .bool true := hp ⟨2, .guard⟩ (by simp) rfl
        simp only [frOf, Act.put, List.setIfInBounds_toArray, List.set_cons_zero, List.set_cons_succ, Nat.zero_add, Nat.reduceAdd] at hK ⊢
        simp only [h2] at hK ⊢
        have kb : wq.cell? ⟨w.heap.size, 0, none⟩ = some (.int .i64 o) := hHq.use (HBX.out.sub hsq)
        go_simp
        exact hK _ wq Pq (Sub.refl _) hHq rfl
      · cases ho
        have h2 : u 2 = .bool true := hp ⟨2, .guard⟩ (by simp) rfl
        simp only [frOf, Act.put, List.setIfInBounds_toArray, List.set_cons_zero, List.set_cons_succ, Nat.zero_add, Nat.reduceAdd] at hK ⊢
        simp only [h2] at hK ⊢
        go_simp
        exact hK _ wq Pq (Sub.refl _) hHq rfl
      · cases ho
        have h4 : u 4 = ptr s := hp ⟨4, .data⟩ (by simp) rfl
        have h2 : u 2 = .bool true := hp ⟨2, .guard⟩ (by simp) rfl
        simp only [frOf, Act.put, List.setIfInBounds_toArray, List.set_cons_zero, List.set_cons_succ, Nat.zero_add, Nat.reduceAdd] at hK ⊢
        simp only [h4, h2] at hK ⊢
        go_simp
        with_reducible refine (end_any hG HW.out hHq).mono ?_
        rintro e w3 ⟨rfl, hH3⟩
        rw [HEN.out]
        exact hK _ w3 Pq (Sub.refl _) hH3 rfl
      · cases ho
        have h3 : u 3 = .int .i64 o := hp ⟨3, .data⟩ (by simp) rfl
        have h5 : u 5 = .int .i64 en := hp ⟨5, .data⟩ (by simp) rfl
        have h2 : u 2 = .bool true := hp ⟨2, .guard⟩ (by simp) rfl
        simp only [frOf, Act.put, List.setIfInBounds_toArray, List.set_cons_zero, List.set_cons_succ, Nat.zero_add, Nat.reduceAdd] at hK ⊢
        simp only [h3, h5, h2] at hK ⊢
        go_simp
        exact hK _ wq Pq (Sub.refl _) hHq (by simp [HOE.out])
      · cases ho
        have h2 : u 2 = .bool true := hp ⟨2, .data⟩ (by simp) rfl
        have h6 : u 6 = .bool false := hp ⟨6, .data⟩ (by simp) rfl
        simp only [frOf, Act.put, List.setIfInBounds_toArray, List.set_cons_zero, List.set_cons_succ, Nat.zero_add, Nat.reduceAdd] at hK ⊢
        simp only [h2, h6] at hK ⊢
        go_simp
        exact hK _ wq Pq (Sub.refl _) hHq rfl
      · exact absurd ho (by simp)
    intro u wq Pq hsq hHq hR
    have h7 : u 7 = .bool false := hR 7 (by decide)
    simp only [frOf, List.setIfInBounds_toArray, List.set_cons_zero, List.set_cons_succ, Nat.zero_add, Nat.reduceAdd]
    simp only [h7]
    have H3 := Lib.hid (hHq.weaken hsq)
    clear hR hHq hsq h7
    obtain ⟨c4b, -⟩ := HP.out _ _ _ H3.out
    rw [HN.out] at c4b
    go_wp2_with fail
    refine (ssize_any hG HW.out H3.out).mono ?_
    rintro e w4 ⟨rfl, hH4⟩
    rw [HZZ.out]
    obtain ⟨d4, -⟩ := HP.out _ _ _ hH4
    rw [HN.out] at d4
    obtain ⟨lv4, k0, k1, -, -, -, -⟩ := hG.cells hH4
    have H4 := Lib.hid hH4
    clear hH4
    go_wp2_with fail
  all_goals
    go_region_held3 (fun w' => w'.cell? ⟨s, 0, none⟩ = some (ptr G.d) ∧ w'.cell? ⟨s, 1, none⟩ = some (str G.nm))
      (first
        | go_keep
        | exact ⟨k0, k1⟩)
      (first
        | (go_at_call 61
           with_reducible refine (dcut_ok (C.sub HS1.out) (hD.sub HS1.out) (Hp.mid H4.out.drew) G.nm (by omega) f.blk HF.out f HL.out kz hkn hfl2).mono ?_
           rintro e w5 ⟨rfl, P5, Ad5, hs5, hD5, hH5⟩
           have hH6 := Hp.mid hH5
           obtain ⟨lv5, k0, k1, -, -, -, -⟩ := hG.cells hH6))
    obtain ⟨d6, -⟩ := HP.out _ _ _ hH6
    rw [HN.out] at d6
    have H6 := Lib.hid hH6
    have HD5 := Lib.hid hD5
    have HS5 := Lib.hid (HS1.out.trans hs5)
    clear hH5 hH6 hD5 hs5 d4
    go_wp2_with fail
    refine (clonepl_ok g k c (placesV 0 (G.l.take k)) HX.out (fun u hu => placesV_one _ _ u hu) (HC.out _ _ _ H6.out) (by omega) H6.out).mono ?_
    rintro e w7 ⟨v7, A7, rfl, hr7, hH7⟩
    obtain ⟨a7, c7, rfl⟩ := hr7.shape
    obtain ⟨lv, Al, hA, hr⟩ := id hG
    have hH8 : Hp w7 P5 ((s, Obj.cells (sgCells G lv) 104 (0, 0)) :: (A7 ++ (Al ++ (Ad5 ++ F)))) := by
      rw [hA] at hH7
      have := Hp.mid (A := A7) (B := [(s, Obj.cells (sgCells G lv) 104 (0, 0))]) (C := Al ++ (Ad5 ++ F)) (by simpa using hH7)
      simpa using this
    have e4 := (@Hp.cell _ _ _ hH8 s _ _ (0, 0) List.mem_cons_self) (i := 4) rfl
    have e5 := (@Hp.cell _ _ _ hH8 s _ _ (0, 0) List.mem_cons_self) (i := 5) rfl
    have f4 := @Hp.frozen _ _ _ hH8 s _ _ List.mem_cons_self 4
    have f5 := @Hp.frozen _ _ _ hH8 s _ _ List.mem_cons_self 5
    have H8 := Lib.hid hH8
    have HR7 := Lib.hid hr7
    clear hH7 hH8 hr7 hA hr d6
    go_wp2_with fail
    go_ret
    refine ⟨rfl, P5, (s, Obj.cells (sgCells (G.cutK k) (.slice a7 k c7)) 104 (0, 0)) :: A7, Ad5, D.cut f kz, HS5.out, ⟨_, A7, rfl, ?_⟩, HD5.out, HO2.out, HSM.out, HUS.out, HLK.out, HPO.out, ?_⟩
    · have hl : (G.cutK k).l.length = k := by show (G.l.take k).length = k; rw [List.length_take, HN.out]; omega
      rw [hl]; exact HR7.out
    · have h1 := (H8.out.set 4 (.slice a7 k c7)).set 5 (.int .i64 kz)
      have h2 := (Hp.mid (A := (s, _) :: A7) (B := Al) (C := Ad5 ++ F) h1).drop
      unfold Sg.cutK
      rw [HKZ.out]
      simpa [sgCells] using h2

theorem scut_ok (C : Ctx S E B P) (hG : SgM s G A) (hO : SegOn D G) (hD : DkM P G.d D Ad) (k : Nat) (o : Int) (hne : G.l ≠ []) (hko : (∃ y, G.l[k]? = some y ∧ y.b = o ∧ ∀ z ∈ G.l.take k, z.b ≠ o) ∨ (k = G.l.length ∧ o = G.end_ ∧ ∀ z ∈ G.l, z.b ≠ o)) (hH : Hp w P (A ++ (Ad ++ F))) :
    Calls Tryz.prog 96 #[ptr s, .int .i64 o] w fun e w' => e = .returned .nilIface ∧ ∃ P' A' Ad' D', Sub P P' ∧ SgM s (G.cutK k) A' ∧ DkM P' G.d D' Ad' ∧ SegOn D' (G.cutK k) ∧ DkSame D D' ∧ D'.used ≤ D.used ∧
      (∀ s', s' ≠ G.nm → D'.look s' = D.look s') ∧ Hp w' P' (A' ++ (Ad' ++ F)) := by
  have e1 := un_of hO.I.arm hO.I.down
  refine (scut_k C hO.I.ok hG (by rw [e1]; exact hO) hD k o hne hko hH).mono ?_
  rintro e w' ⟨rfl, P', A', Ad', D', x1, x2, x3, x4, x5, x6, x7, x8, x9⟩
  have e2 : D'.un = D' := un_of (by have := x8.arm; rw [hO.I.arm] at this; omega) x8.down
  rw [e2] at x4 x5
  rw [e1] at x5
  exact ⟨rfl, P', A', Ad', D', x1, x2, x3, x4, x5, x6, x7, x9⟩

set_option maxRecDepth 100000 in
set_option maxHeartbeats 2000000 in
/-- Cut, and the power goes. -/
theorem scut_x (C : Ctx S E B P) (hok : D.ok = false) (hG : SgM s G A) (hO : SegOn D.un G) (hD : DkM P G.d D Ad) (k : Nat) (o : Int) (hne : G.l ≠ []) (hko : (∃ y, G.l[k]? = some y ∧ y.b = o ∧ ∀ z ∈ G.l.take k, z.b ≠ o) ∨ (k = G.l.length ∧ o = G.end_ ∧ ∀ z ∈ G.l, z.b ≠ o)) (hH : Hp w P (A ++ (Ad ++ F))) :
    Calls Tryz.prog 96 #[ptr s, .int .i64 o] w fun e w' => e = .returned (crashE E) ∧ ∃ P' Ad', Sub P P' ∧ DkM P' G.d D.beg Ad' ∧ Hp w' P' (A ++ (Ad' ++ F)) := by
  have hkl : k ≤ G.l.length := by
    rcases hko with ⟨y, h, -⟩ | ⟨h, -⟩
    · exact Nat.le_of_lt (List.getElem?_eq_some_iff.1 h).1
    · omega
  obtain ⟨f, h1, h2, h3⟩ := hO.f
  have hr := hO.room
  have hu := hO.used
  have hnm := hO.nm
  have hW := hO.W
  have hfl : f.b.length = sizes G.l := by rw [h2, flatB_len]
  have hsk : sizes (G.l.take k) ≤ sizes G.l := by
    have := sizes_mono G.l k G.l.length hkl
    rwa [List.take_length] at this
  have hflen : f.b.length ≤ D.used := used_ge h1
  have hr' : D.room ≤ 4194304 := hr
  have hu' : D.used ≤ D.room := hu
  obtain ⟨g, c, hc, hpl⟩ := hG.places hne
  obtain ⟨P1, hs1, hH1, hm1⟩ := hH.lay (.cells #[.int .i64 o] 2)
  have hbx : Pers P1 (fun w' => w'.cell? ⟨w.heap.size, 0, none⟩ = some (.int .i64 o)) := fun w' hw => by
    have := hw.m _ _ hm1
    simp [World.cell?, this]
  obtain ⟨c4, -⟩ := hpl _ _ _ hH1
  have hbl : s < w.heap.size := by
    have := World.block_lt_of_cell? _ _ (hpl _ _ _ hH).1
    exact this
  obtain ⟨n, hn⟩ : ∃ n, G.l.length = n := ⟨_, rfl⟩
  obtain ⟨en, hen⟩ : ∃ e, G.end_ = e := ⟨_, rfl⟩
  obtain ⟨kz, hkz⟩ : ∃ z, sizes (G.l.take k) = z := ⟨_, rfl⟩
  obtain ⟨nz, hnz⟩ : ∃ z, sizes G.l = z := ⟨_, rfl⟩
  have hnl := hW.len
  rw [hn] at hc c4 hkl hnl
  rw [hkz] at hsk
  rw [hnz] at hsk hfl
  have hn0 : 0 < n := by rw [← hn]; exact List.length_pos_iff.2 hne
  have hc0 : ¬ c = 0 := by omega
  have hkc : k ≤ c := by omega
  have i1 : (k : Int) ≤ (c : Int) := by omega
  have HKZ := Lib.hid hkz
  have HNZ := Lib.hid hnz
  have HOK := Lib.hid hok
  have HW := Lib.hid hW
  have HP := Lib.hid hpl
  have HBX := Lib.hid hbx
  have HM1 := Lib.hid hm1
  have HS1 := Lib.hid hs1
  have H1 := Lib.hid hH1
  have HN := Lib.hid hn
  have HEN := Lib.hid hen
  clear hok h1 h2 h3 hH hO hfl hW hn hen hpl hH1 hm1 hs1 hbx hkz hnz hne
  rcases hko with ⟨y, hy, hyo, hyz⟩ | ⟨hkn2, hoe, hyz⟩
  case' inl =>
    have hklt : k < n := by rw [← HN.out]; exact (List.getElem?_eq_some_iff.1 hy).1
    have hix : idxB o G.l = (k : Int) := by
      have hkl2 : k < G.l.length := by rw [HN.out]; exact hklt
      have hyk : G.l[k] = y := by rw [List.getElem?_eq_getElem hkl2] at hy; exact Option.some.inj hy
      unfold idxB
      rw [← take_split G.l k hkl2, idxO_some o _ _ _ hyz (by rw [hyk]; exact hyo), List.length_take, Nat.min_eq_left (by omega)]
    have hy2 : ∀ w P F, Hp w P (A ++ F) → w.cell? ⟨g, k * 6 + 2, none⟩ = some (.int .i64 kz) := fun w P F hH => by
      have h1 := (HP.out w P F hH).2 k (by rw [HN.out]; exact hklt) 2 (.int .i64 (sizes (G.l.take k))) rfl
      rwa [HKZ.out] at h1
    have HY2 := Lib.hid hy2
    have HIX := Lib.hid hix
    have j1 : (0 : Int) ≤ (k : Int) := by omega
    have j2 : (k : Int) < (n : Int) := by omega
    clear hy hyo hyz hix hy2
    go_enter Tryz.func96, Tryz.ntmps96
    go_wp2_with fail
    refine (idxfn_ok hG HW.out _ c4 w.heap.size o HM1.out H1.out).mono ?_
    rintro e w2 ⟨rfl, hH2⟩
    rw [HIX.out]
    have H2 := Lib.hid hH2
    clear hH2
    go_wp2_with fail
    refine wp_region_hp (by kernel_rfl) (by decide) _ _ H2.out (fun i _ v => match i with | 0 => v = .int .i64 k | 1 => v = .bool false | 2 => v = .bool false | 3 => v = undef | 4 => v = undef | 5 => v = undef | 6 => v = undef | 7 => v = .bool false | _ => True) (by intro i P P' v _ h; exact h) ?_ ?_
    · intro i o ho u wq Pq hsq hHq hp K hK
      rcases i with _ | _ | _ | _ | _ | _ | _ | _ | i
      · cases ho
        simp only [frOf, Act.put, List.setIfInBounds_toArray, List.set_cons_zero, List.set_cons_succ, Nat.zero_add, Nat.reduceAdd] at hK ⊢
        go_simp
        exact hK _ wq Pq (Sub.refl _) hHq rfl
      · cases ho
        have h0 : u 0 = .int .i64 k := hp ⟨0, .data⟩ (by simp) rfl
        simp only [frOf, Act.put, List.setIfInBounds_toArray, List.set_cons_zero, List.set_cons_succ, Nat.zero_add, Nat.reduceAdd] at hK ⊢
        simp only [h0] at hK ⊢
        go_simp
        exact hK _ wq Pq (Sub.refl _) hHq (by simp)
      · cases ho
        have h1 : u 1 = .bool false := hp ⟨1, .data⟩ (by simp) rfl
        simp only [frOf, Act.put, List.setIfInBounds_toArray, List.set_cons_zero, List.set_cons_succ, Nat.zero_add, Nat.reduceAdd] at hK ⊢
        simp only [h1] at hK ⊢
        go_simp
        exact hK _ wq Pq (Sub.refl _) hHq rfl
      · cases ho
        have h2 : u 2 = .bool false := hp ⟨2, .guard⟩ (by simp) rfl
        simp only [frOf, Act.put, List.setIfInBounds_toArray, List.set_cons_zero, List.set_cons_succ, Nat.zero_add, Nat.reduceAdd] at hK ⊢
        simp only [h2]
        first | exact trivial | (go_simp; done) | (rw [if_neg (by decide)]; trivial) | (rw [if_neg (Bool.not_eq_true _ ▸ (by kernel_rfl))]; trivial)
      · cases ho
        have h2 : u 2 = .bool false := hp ⟨2, .guard⟩ (by simp) rfl
        simp only [frOf, Act.put, List.setIfInBounds_toArray, List.set_cons_zero, List.set_cons_succ, Nat.zero_add, Nat.reduceAdd] at hK ⊢
        simp only [h2]
        first | exact trivial | (go_simp; done) | (rw [if_neg (by decide)]; trivial) | (rw [if_neg (Bool.not_eq_true _ ▸ (by kernel_rfl))]; trivial)
      · cases ho
        have h4 : u 4 = undef := hp ⟨4, .data⟩ (by simp) rfl
        have h2 : u 2 = .bool false := hp ⟨2, .guard⟩ (by simp) rfl
        simp only [frOf, Act.put, List.setIfInBounds_toArray, List.set_cons_zero, List.set_cons_succ, Nat.zero_add, Nat.reduceAdd] at hK ⊢
        simp only [h4, h2]
        first | exact trivial | (go_simp; done) | (rw [if_neg (by decide)]; trivial) | (rw [if_neg (Bool.not_eq_true _ ▸ (by kernel_rfl))]; trivial)
      · cases ho
        have h3 : u 3 = undef := hp ⟨3, .data⟩ (by simp) rfl
        have h5 : u 5 = undef := hp ⟨5, .data⟩ (by simp) rfl
        have h2 : u 2 = .bool false := hp ⟨2, .guard⟩ (by simp) rfl
        simp only [frOf, Act.put, List.setIfInBounds_toArray, List.set_cons_zero, List.set_cons_succ, Nat.zero_add, Nat.reduceAdd] at hK ⊢
        simp only [h3, h5, h2]
        first | exact trivial | (go_simp; done) | (rw [if_neg (by decide)]; trivial) | (rw [if_neg (Bool.not_eq_true _ ▸ (by kernel_rfl))]; trivial)
      · cases ho
        have h2 : u 2 = .bool false := hp ⟨2, .data⟩ (by simp) rfl
        have h6 : u 6 = undef := hp ⟨6, .data⟩ (by simp) rfl
        simp only [frOf, Act.put, List.setIfInBounds_toArray, List.set_cons_zero, List.set_cons_succ, Nat.zero_add, Nat.reduceAdd] at hK ⊢
        simp only [h2, h6] at hK ⊢
        go_simp
        exact hK _ wq Pq (Sub.refl _) hHq rfl
      · exact absurd ho (by simp)
    intro u wq Pq hsq hHq hR
    have h7 : u 7 = .bool false := hR 7 (by decide)
    simp only [frOf, List.setIfInBounds_toArray, List.set_cons_zero, List.set_cons_succ, Nat.zero_add, Nat.reduceAdd]
    simp only [h7]
    have H3 := Lib.hid (hHq.weaken hsq)
    clear hR hHq hsq h7
    go_wp2_with fail
    refine (ssize_any hG HW.out H3.out).mono ?_
    rintro e w4 ⟨rfl, hH4⟩
    obtain ⟨d4, -⟩ := HP.out _ _ _ hH4
    rw [HN.out] at d4
    have d5 := HY2.out _ _ _ hH4
    obtain ⟨lv4, k0, k1, -, -, -, -⟩ := hG.cells hH4
    have H4 := Lib.hid hH4
    clear hH4
    go_wp2_with fail
  case' inr =>
    have hix : idxB o G.l = -1 := by unfold idxB; rw [idxO_none o _ hyz]
    have hkz2 : nz = kz := by rw [← HNZ.out, ← HKZ.out, hkn2, List.take_length]
    have hoe2 : o = en := by rw [← HEN.out]; exact hoe
    have HOE := Lib.hid hoe2
    have HIX := Lib.hid hix
    have hkn3 : k = n := by rw [hkn2]; exact HN.out
    have HZZ : Hid (sizes G.l = kz) := by show _ = _; rw [HNZ.out]; exact hkz2
    clear hkn2 hoe hyz hix hkz2 hoe2
    subst hkn3
    go_enter Tryz.func96, Tryz.ntmps96
    go_wp2_with fail
    refine (idxfn_ok hG HW.out _ c4 w.heap.size o HM1.out H1.out).mono ?_
    rintro e w2 ⟨rfl, hH2⟩
    rw [HIX.out]
    have H2 := Lib.hid hH2
    clear hH2
    go_wp2_with fail
    refine wp_region_hp (by kernel_rfl) (by decide) _ _ H2.out (fun i _ v => match i with | 0 => v = .int .i64 (-1) | 1 => v = .bool true | 2 => v = .bool true | 3 => v = .int .i64 o | 4 => v = ptr s | 5 => v = .int .i64 en | 6 => v = .bool false | 7 => v = .bool false | _ => True) (by intro i P P' v _ h; exact h) ?_ ?_
    · intro i o ho u wq Pq hsq hHq hp K hK
      rcases i with _ | _ | _ | _ | _ | _ | _ | _ | i
      · cases ho
        simp only [frOf, Act.put, List.setIfInBounds_toArray, List.set_cons_zero, List.set_cons_succ, Nat.zero_add, Nat.reduceAdd] at hK ⊢
        go_simp
        exact hK _ wq Pq (Sub.refl _) hHq rfl
      · cases ho
        have h0 : u 0 = .int .i64 (-1) := hp ⟨0, .data⟩ (by simp) rfl
        simp only [frOf, Act.put, List.setIfInBounds_toArray, List.set_cons_zero, List.set_cons_succ, Nat.zero_add, Nat.reduceAdd] at hK ⊢
        simp only [h0] at hK ⊢
        go_simp
        exact hK _ wq Pq (Sub.refl _) hHq (by rfl)
      · cases ho
        have h1 : u 1 = .bool true := hp ⟨1, .data⟩ (by simp) rfl
        simp only [frOf, Act.put, List.setIfInBounds_toArray, List.set_cons_zero, List.set_cons_succ, Nat.zero_add, Nat.reduceAdd] at hK ⊢
        simp only [h1] at hK ⊢
        go_simp
        exact hK _ wq Pq (Sub.refl _) hHq rfl
      · cases ho
        have h2 : u 2 = .bool true := hp ⟨2, .guard⟩ (by simp) rfl
        simp only [frOf, Act.put, List.setIfInBounds_toArray, List.set_cons_zero, List.set_cons_succ, Nat.zero_add, Nat.reduceAdd] at hK ⊢
        simp only [h2] at hK ⊢
        have kb : wq.cell? ⟨w.heap.size, 0, none⟩ = some (.int .i64 o) := hHq.use (HBX.out.sub hsq)
        go_simp
        exact hK _ wq Pq (Sub.refl _) hHq rfl
      · cases ho
        have h2 : u 2 = .bool true := hp ⟨2, .guard⟩ (by simp) rfl
        simp only [frOf, Act.put, List.setIfInBounds_toArray, List.set_cons_zero, List.set_cons_succ, Nat.zero_add, Nat.reduceAdd] at hK ⊢
        simp only [h2] at hK ⊢
        go_simp
        exact hK _ wq Pq (Sub.refl _) hHq rfl
      · cases ho
        have h4 : u 4 = ptr s := hp ⟨4, .data⟩ (by simp) rfl
        have h2 : u 2 = .bool true := hp ⟨2, .guard⟩ (by simp) rfl
        simp only [frOf, Act.put, List.setIfInBounds_toArray, List.set_cons_zero, List.set_cons_succ, Nat.zero_add, Nat.reduceAdd] at hK ⊢
        simp only [h4, h2] at hK ⊢
        go_simp
        with_reducible refine (end_any hG HW.out hHq).mono ?_
        rintro e w3 ⟨rfl, hH3⟩
        rw [HEN.out]
        exact hK _ w3 Pq (Sub.refl _) hH3 rfl
      · cases ho
        have h3 : u 3 = .int .i64 o := hp ⟨3, .data⟩ (by simp) rfl
        have h5 : u 5 = .int .i64 en := hp ⟨5, .data⟩ (by simp) rfl
        have h2 : u 2 = .bool true := hp ⟨2, .guard⟩ (by simp) rfl
        simp only [frOf, Act.put, List.setIfInBounds_toArray, List.set_cons_zero, List.set_cons_succ, Nat.zero_add, Nat.reduceAdd] at hK ⊢
        simp only [h3, h5, h2] at hK ⊢
        go_simp
        exact hK _ wq Pq (Sub.refl _) hHq (by simp [HOE.out])
      · cases ho
        have h2 : u 2 = .bool true := hp ⟨2, .data⟩ (by simp) rfl
        have h6 : u 6 = .bool false := hp ⟨6, .data⟩ (by simp) rfl
        simp only [frOf, Act.put, List.setIfInBounds_toArray, List.set_cons_zero, List.set_cons_succ, Nat.zero_add, Nat.reduceAdd] at hK ⊢
        simp only [h2, h6] at hK ⊢
        go_simp
        exact hK _ wq Pq (Sub.refl _) hHq rfl
      · exact absurd ho (by simp)
    intro u wq Pq hsq hHq hR
    have h7 : u 7 = .bool false := hR 7 (by decide)
    simp only [frOf, List.setIfInBounds_toArray, List.set_cons_zero, List.set_cons_succ, Nat.zero_add, Nat.reduceAdd]
    simp only [h7]
    have H3 := Lib.hid (hHq.weaken hsq)
    clear hR hHq hsq h7
    obtain ⟨c4b, -⟩ := HP.out _ _ _ H3.out
    rw [HN.out] at c4b
    go_wp2_with fail
    refine (ssize_any hG HW.out H3.out).mono ?_
    rintro e w4 ⟨rfl, hH4⟩
    rw [HZZ.out]
    obtain ⟨d4, -⟩ := HP.out _ _ _ hH4
    rw [HN.out] at d4
    obtain ⟨lv4, k0, k1, -, -, -, -⟩ := hG.cells hH4
    have H4 := Lib.hid hH4
    clear hH4
    go_wp2_with fail
  all_goals
    go_region_held3 (fun w' => w'.cell? ⟨s, 0, none⟩ = some (ptr G.d) ∧ w'.cell? ⟨s, 1, none⟩ = some (str G.nm))
      (first
        | go_keep
        | exact ⟨k0, k1⟩)
      (first
        | (go_at_call 61
           with_reducible refine (dcut_x (C.sub HS1.out) (hD.sub HS1.out) (Hp.mid H4.out.drew) G.nm (by omega) HOK.out (kz : Int)).mono ?_
           rintro e w5 ⟨rfl, Ad5, hD5, hH5⟩
           have hH6 := Hp.mid hH5
           obtain ⟨lv5, k0, k1, -, -, -, -⟩ := hG.cells hH6))
    have H6 := Lib.hid hH6
    have HD5 := Lib.hid hD5
    clear hH5 hH6 hD5 d4
    go_wp2_with fail
    go_ret
    exact ⟨rfl, P1, Ad5, HS1.out, HD5.out, H6.out⟩

set_option maxRecDepth 100000 in
set_option maxHeartbeats 1000000 in
/-- Cut elsewhere: refused. -/
theorem scut_out (C : Ctx S E B P) (hG : SgM s G A) (hW : SgW G) (o : Int) (hoe : o ≠ G.end_) (hyz : ∀ z ∈ G.l, z.b ≠ o) (hH : Hp w P (A ++ F)) :
    Calls Tryz.prog 96 #[ptr s, .int .i64 o] w fun e w' => e = .returned (.iface 289 (.pointer (some (E 14)))) ∧ ∃ P', Sub P P' ∧ Hp w' P' (A ++ F) := by
  obtain ⟨P1, hs1, hH1, hm1⟩ := hH.lay (.cells #[.int .i64 o] 2)
  have hbx : Pers P1 (fun w' => w'.cell? ⟨w.heap.size, 0, none⟩ = some (.int .i64 o)) := fun w' hw => by
    have := hw.m _ _ hm1
    simp [World.cell?, this]
  obtain ⟨en, hen⟩ : ∃ e, G.end_ = e := ⟨_, rfl⟩
  rw [hen] at hoe
  have hix : idxB o G.l = -1 := by unfold idxB; rw [idxO_none o _ hyz]
  obtain ⟨lv, Al, hA, hr⟩ := id hG
  obtain ⟨la, lc, rfl⟩ := hr.shape
  have c4 : (w.alloc (.cells #[.int .i64 o] 2)).cell? ⟨s, 4, none⟩ = some (.slice la G.l.length lc) := hH1.cell (b := s) (c := sgCells G (.slice la G.l.length lc)) (t := 104) (fr := (0, 0)) (by simp [hA]) rfl
  have hbl : s < w.heap.size := hH.lt (x := (s, Obj.cells (sgCells G (.slice la G.l.length lc)) 104 (0, 0))) (by simp [hA])
  have ce : ∀ w, Agr P1 w → w.cell? ⟨7, 0, none⟩ = some (.iface 289 (.pointer (some (E 14)))) := fun w hw => ((C.sub hs1).errs w hw).at_ 14 (C.all 14 (by omega))
  have HW := Lib.hid hW
  have HBX := Lib.hid hbx
  have HM1 := Lib.hid hm1
  have HS1 := Lib.hid hs1
  have H1 := Lib.hid hH1
  have HEN := Lib.hid hen
  have HOE := Lib.hid hoe
  have HIX := Lib.hid hix
  have HCE := Lib.hid ce
  clear hH hW hen hH1 hm1 hs1 hbx hoe hyz hix ce hA hr
  go_enter Tryz.func96, Tryz.ntmps96
  go_wp2_with fail
  refine (idxfn_ok hG HW.out _ c4 w.heap.size o HM1.out H1.out).mono ?_
  rintro e w2 ⟨rfl, hH2⟩
  rw [HIX.out]
  have H2 := Lib.hid hH2
  clear hH2
  go_wp2_with fail
  refine wp_region_hp (by kernel_rfl) (by decide) _ _ H2.out (fun i _ v => match i with | 0 => v = .int .i64 (-1) | 1 => v = .bool true | 2 => v = .bool true | 3 => v = .int .i64 o | 4 => v = ptr s | 5 => v = .int .i64 en | 6 => v = .bool true | 7 => v = .bool true | _ => True) (by intro i P P' v _ h; exact h) ?_ ?_
  · intro i o ho u wq Pq hsq hHq hp K hK
    rcases i with _ | _ | _ | _ | _ | _ | _ | _ | i
    · cases ho
      simp only [frOf, Act.put, List.setIfInBounds_toArray, List.set_cons_zero, List.set_cons_succ, Nat.zero_add, Nat.reduceAdd] at hK ⊢
      go_simp
      exact hK _ wq Pq (Sub.refl _) hHq rfl
    · cases ho
      have h0 : u 0 = .int .i64 (-1) := hp ⟨0, .data⟩ (by simp) rfl
      simp only [frOf, Act.put, List.setIfInBounds_toArray, List.set_cons_zero, List.set_cons_succ, Nat.zero_add, Nat.reduceAdd] at hK ⊢
      simp only [h0] at hK ⊢
      go_simp
      exact hK _ wq Pq (Sub.refl _) hHq (by rfl)
    · cases ho
      have h1 : u 1 = .bool true := hp ⟨1, .data⟩ (by simp) rfl
      simp only [frOf, Act.put, List.setIfInBounds_toArray, List.set_cons_zero, List.set_cons_succ, Nat.zero_add, Nat.reduceAdd] at hK ⊢
      simp only [h1] at hK ⊢
      go_simp
      exact hK _ wq Pq (Sub.refl _) hHq rfl
    · cases ho
      have h2 : u 2 = .bool true := hp ⟨2, .guard⟩ (by simp) rfl
      simp only [frOf, Act.put, List.setIfInBounds_toArray, List.set_cons_zero, List.set_cons_succ, Nat.zero_add, Nat.reduceAdd] at hK ⊢
      simp only [h2] at hK ⊢
      have kb : wq.cell? ⟨w.heap.size, 0, none⟩ = some (.int .i64 o) := hHq.use (HBX.out.sub hsq)
      go_simp
      exact hK _ wq Pq (Sub.refl _) hHq rfl
    · cases ho
      have h2 : u 2 = .bool true := hp ⟨2, .guard⟩ (by simp) rfl
      simp only [frOf, Act.put, List.setIfInBounds_toArray, List.set_cons_zero, List.set_cons_succ, Nat.zero_add, Nat.reduceAdd] at hK ⊢
      simp only [h2] at hK ⊢
      go_simp
      exact hK _ wq Pq (Sub.refl _) hHq rfl
    · cases ho
      have h4 : u 4 = ptr s := hp ⟨4, .data⟩ (by simp) rfl
      have h2 : u 2 = .bool true := hp ⟨2, .guard⟩ (by simp) rfl
      simp only [frOf, Act.put, List.setIfInBounds_toArray, List.set_cons_zero, List.set_cons_succ, Nat.zero_add, Nat.reduceAdd] at hK ⊢
      simp only [h4, h2] at hK ⊢
      go_simp
      with_reducible refine (end_any hG HW.out hHq).mono ?_
      rintro e w3 ⟨rfl, hH3⟩
      rw [HEN.out]
      exact hK _ w3 Pq (Sub.refl _) hH3 rfl
    · cases ho
      have h3 : u 3 = .int .i64 o := hp ⟨3, .data⟩ (by simp) rfl
      have h5 : u 5 = .int .i64 en := hp ⟨5, .data⟩ (by simp) rfl
      have h2 : u 2 = .bool true := hp ⟨2, .guard⟩ (by simp) rfl
      simp only [frOf, Act.put, List.setIfInBounds_toArray, List.set_cons_zero, List.set_cons_succ, Nat.zero_add, Nat.reduceAdd] at hK ⊢
      simp only [h3, h5, h2] at hK ⊢
      go_simp
      exact hK _ wq Pq (Sub.refl _) hHq (by simp [HOE.out])
    · cases ho
      have h2 : u 2 = .bool true := hp ⟨2, .data⟩ (by simp) rfl
      have h6 : u 6 = .bool true := hp ⟨6, .data⟩ (by simp) rfl
      simp only [frOf, Act.put, List.setIfInBounds_toArray, List.set_cons_zero, List.set_cons_succ, Nat.zero_add, Nat.reduceAdd] at hK ⊢
      simp only [h2, h6] at hK ⊢
      go_simp
      exact hK _ wq Pq (Sub.refl _) hHq rfl
    · exact absurd ho (by simp)
  intro u wq Pq hsq hHq hR
  have h7 : u 7 = .bool true := hR 7 (by decide)
  simp only [frOf, List.setIfInBounds_toArray, List.set_cons_zero, List.set_cons_succ, Nat.zero_add, Nat.reduceAdd]
  simp only [h7]
  have H3 := Lib.hid (hHq.weaken hsq)
  clear hR hHq hsq h7
  have ce3 := HCE.out _ H3.out.agr
  go_wp2_with fail
  go_ret
  exact ⟨rfl, P1, HS1.out, H3.out⟩
end

end Go.Proofs.YtncjffkpkmjgkaaGreatDoor.Sg

/-! Ke -/
namespace Go.Proofs.YtncjffkpkmjgkaaGreatDoor.Sg
open Go.RowKit Er Go.Maps

/-! ### what a disk has at least -/
theorem sum_del (F : Nam × Nat → Nat) : ∀ {m : List (Nam × Nat)} (_ : (m.map (·.1)).Nodup) {p : Nam × Nat} (_ : p ∈ m), allSum F m = F p + allSum F (ndel m p.1)
  | [], _, p, hp => by cases hp
  | q :: m, hnd, p, hp => by
    rw [List.map_cons, List.nodup_cons] at hnd
    by_cases e : q.1 = p.1
    · have hpq : p = q := by
        rcases List.mem_cons.1 hp with h | h
        · exact h
        · exact absurd (List.mem_map.2 ⟨p, h, e.symm⟩) hnd.1
      subst hpq
      have : ndel (p :: m) p.1 = m := by
        unfold ndel
        rw [List.filter_cons_of_neg (by simp), List.filter_eq_self]
        intro r hr
        simp only [Bool.not_eq_true', beq_eq_false_iff_ne, ne_eq]
        intro e2
        exact hnd.1 (List.mem_map.2 ⟨r, hr, e2⟩)
      rw [this]
      rfl
    · have hp' : p ∈ m := by
        rcases List.mem_cons.1 hp with h | h
        · exact absurd (by rw [h]) e
        · exact h
      have ih := sum_del F hnd.2 hp'
      have : ndel (q :: m) p.1 = q :: ndel m p.1 := by
        unfold ndel
        rw [List.filter_cons_of_pos (by simp [e])]
      rw [this]
      unfold allSum at ih ⊢
      rw [List.map_cons, List.map_cons, List.sum_cons, List.sum_cons, ih]
      omega
theorem ndel_nd {m : List (Nam × Nat)} (h : (m.map (·.1)).Nodup) (s : Nam) : ((ndel m s).map (·.1)).Nodup := h.sublist (List.Sublist.map _ List.filter_sublist)
/-- Files of different names are as many bytes as the disk has, at most. -/
theorem used_all (D : Dk) : ∀ (L : List (Nat × Sg)) (m : List (Nam × Nat)), (m.map (·.1)).Nodup → (L.map (·.2.nm)).Nodup → (∀ p, p ∈ L → ∃ f b, nfind m p.2.nm = some b ∧ ffind D.fl b = some f ∧ f.b.length = sizes p.2.l) →
    sizes (L.map (·.2.l)).flatten ≤ allSum (flen D.fl) m
  | [], _, _, _, _ => by simp [sizes]
  | p :: L, m, hnd, hn, h => by
    rw [List.map_cons, List.nodup_cons] at hn
    obtain ⟨f, b, h1, h2, h3⟩ := h p List.mem_cons_self
    have hm := nfind_mem h1
    rw [sum_del _ hnd hm, List.map_cons, List.flatten_cons, sizes_app]
    have e1 : flen D.fl (p.2.nm, b) = sizes p.2.l := by simp [flen, h2, h3]
    have ih := used_all D L (ndel m p.2.nm) (ndel_nd hnd _) hn.2 (fun q hq => by
      obtain ⟨f, b, k1, k2, k3⟩ := h q (List.mem_cons_of_mem _ hq)
      refine ⟨f, b, ?_, k2, k3⟩
      rw [ndel_find, if_neg (fun e => hn.1 (List.mem_map.2 ⟨q, hq, e⟩))]
      exact k1)
    rw [e1]
    exact Nat.add_le_add_left ih _

/-! ### names that are let be none -/
def Dk.rems (D : Dk) (ns : List Nam) : Dk := ns.foldl Dk.remove D
theorem rems_snoc (D : Dk) (ns : List Nam) (s : Nam) : D.rems (ns ++ [s]) = (D.rems ns).remove s := by simp [Dk.rems]
structure Remd (D D' : Dk) (ns : List Nam) : Prop where
  I : DkI D'
  room : D'.room = D.room
  n : D'.n = D.n
  kp : D'.kp = D.kp
  fl : D'.fl = D.fl
  ch : D'.ch = D.ch ++ ns.map fun s => ⟨[], s, none⟩
  used : D'.used ≤ D.used
  lk : ∀ s', D'.look s' = if s' ∈ ns then none else D.look s'
  nml : D'.nm.length ≤ D.nm.length
theorem remd_rems {D : Dk} (hI : DkI D) : ∀ (ns : List Nam), (∀ s, s ∈ ns → s ≠ []) → Remd D (D.rems ns) ns := by
  intro ns
  obtain ⟨n, hn⟩ : ∃ n, ns.length = n := ⟨_, rfl⟩
  induction n generalizing ns with
  | zero =>
    intro _
    rw [List.eq_nil_of_length_eq_zero hn]
    exact ⟨hI, rfl, rfl, rfl, rfl, by simp [Dk.rems], Nat.le_refl _, by simp [Dk.rems], Nat.le_refl _⟩
  | succ n ih =>
    intro hs
    rcases snoc_cases ns with rfl | ⟨ns, s, rfl⟩
    · simp at hn
    · have h1 := ih ns (by simpa using hn) (fun x hx => hs x (by simp [hx]))
      have hsn := hs s (by simp)
      rw [rems_snoc]
      have hb := h1.I.beg
      have hnm := remove_nm (D := D.rems ns) s hsn
      refine ⟨remove_I h1.I hsn, ?_, ?_, ?_, ?_, ?_, Nat.le_trans (remove_used hsn) h1.used, fun s' => ?_, ?_⟩
      · show (D.rems ns).beg.room = _; rw [hb]; exact h1.room
      · show (D.rems ns).beg.n = _; rw [hb]; exact h1.n
      · show (D.rems ns).beg.kp = _; rw [hb]; exact h1.kp
      · show (D.rems ns).beg.fl = _; rw [hb]; exact h1.fl
      · show (D.rems ns).beg.ch ++ _ = _; rw [hb, h1.ch]; simp
      · rw [remove_look hsn, h1.lk]
        by_cases e1 : s' = s
        · rw [if_pos e1, if_pos (by simp [e1])]
        · rw [if_neg e1]
          by_cases e2 : s' ∈ ns
          · rw [if_pos e2, if_pos (by simp [e2])]
          · rw [if_neg e2, if_neg (by simp [e1, e2])]
      · rw [hnm]
        exact Nat.le_trans (List.length_filter_le _ _) h1.nml
theorem rems_len {D : Dk} (hI : DkI D) : ∀ (ns : List Nam), ns.Nodup → (∀ s, s ∈ ns → s ≠ [] ∧ ∃ f, D.look s = some f) → (D.rems ns).nm.length + ns.length = D.nm.length := by
  intro ns
  obtain ⟨n, hn⟩ : ∃ n, ns.length = n := ⟨_, rfl⟩
  induction n generalizing ns with
  | zero =>
    intro _ _
    rw [List.eq_nil_of_length_eq_zero hn]; rfl
  | succ n ih =>
    intro hnd hs
    rcases snoc_cases ns with rfl | ⟨ns, s, rfl⟩
    · simp at hn
    · rw [List.nodup_append] at hnd
      have h1 := ih ns (by simpa using hn) hnd.1 (fun x hx => hs x (by simp [hx]))
      have hr := remd_rems hI ns (fun x hx => (hs x (by simp [hx])).1)
      obtain ⟨hsn, f, hf⟩ := hs s (by simp)
      have hf' : (D.rems ns).look s = some f := by rw [hr.lk, if_neg (fun hm => hnd.2.2 s hm s (by simp) rfl)]; exact hf
      have := remove_len hr.I hsn hf'
      rw [rems_snoc, List.length_append, List.length_singleton]
      omega

section
variable {D D' : Dk} {H : Hl} {b0 : Int} {l : List Bt} {L1 L2 : List (Nat × Sg)} {s : Nat} {G : Sg}

/-- The segments' names. -/
theorem HotOn.nmND (h : HotOn D H b0 l) : (H.L.map (·.2.nm)).Nodup := by
  rw [List.Nodup, List.pairwise_map]
  have key : ∀ (L1 L2 : List (Nat × Sg)), H.L = L1 ++ L2 → List.Pairwise (fun a b : Nat × Sg => a.2.nm ≠ b.2.nm) L2 := by
    intro L1 L2
    induction L2 generalizing L1 with
    | nil => intro _; exact List.Pairwise.nil
    | cons p L2 ih =>
      intro hL
      refine List.Pairwise.cons (fun q hq e => ?_) (ih (L1 ++ [p]) (by rw [hL]; simp))
      exact h.names (s := p.1) (G := p.2) hL q (.inr hq) e.symm
  exact key [] H.L rfl
theorem HotOn.nm0 (h : HotOn D H b0 l) {p : Nat × Sg} (hp : p ∈ H.L) : p.2.nm ≠ [] := by
  rw [(h.sg p hp).2.2.2]
  intro e
  have := segNm_len p.2.base
  rw [e] at this
  simp at this
/-- Only the segments ahead are left on a disk. -/
theorem HotOn.less (h : HotOn D H b0 l) (hL : H.L = L1 ++ L2) (hI : DkI D') (hr : D'.room = D.room) (hu : D'.used ≤ D.used) (hn : D'.n = D.n) (hc : D'.ch.length = 0) (hkp : D'.kp = D'.nm)
    (hlk1 : ∀ p, p ∈ L1 → D'.look p.2.nm = D.look p.2.nm) (hlk2 : ∀ s', (∀ p, p ∈ L1 → p.2.nm ≠ s') → D'.look s' = none) (hnl : D'.nm.length = L1.length) : HotOn D' { H with L := L1 } b0 ((L1.map (·.2.l)).flatten) := by
  have hin : ∀ p, p ∈ L1 → p ∈ H.L := fun p hp => by rw [hL]; exact List.mem_append_left _ hp
  have hu' : D'.used ≤ D'.room := by rw [hr]; exact Nat.le_trans hu h.used
  have hsg : ∀ p, p ∈ L1 → SegOn D' p.2 := fun p hp => (h.sg p (hin p hp)).1.keep hI (by rw [hr]; exact h.room) hu' (hlk1 p hp)
  have hlk := h.lk
  rw [hL, List.map_append] at hlk
  have hch := h.ch
  have hfl := h.fl
  rw [hL, List.map_append, List.flatten_append] at hfl
  rw [← hfl] at hch
  have hnd := h.nmND
  rw [hL, List.map_append] at hnd
  refine ⟨fun p hp => ⟨hsg p hp, (h.sg p (hin p hp)).2⟩, hI, by rw [hr]; exact h.room, hu', hlk.left, rfl, ((chain_app _ _ _ _).1 hch).1, hlk2, hnl, by rw [hn]; exact h.n, hc, hkp, h.e1, h.e2, h.b0, ?_⟩
  refine used_all D' L1 D'.nm hI.nd (List.nodup_append.1 hnd).1 (fun p hp => ?_)
  obtain ⟨f, f1, f2, -⟩ := (hsg p hp).f
  obtain ⟨k1, k2⟩ := look_some f1
  exact ⟨f, f.blk, k1, k2, by rw [f2, flatB_len]⟩

/-- The names of segments, the last one ahead. -/
def revNm (L : List (Nat × Sg)) : List Nam := (L.map (·.2.nm)).reverse
theorem revNm_cons (p : Nat × Sg) (L : List (Nat × Sg)) : revNm (p :: L) = revNm L ++ [p.2.nm] := by simp [revNm]
theorem mem_revNm {L : List (Nat × Sg)} {s : Nam} : s ∈ revNm L ↔ ∃ p, p ∈ L ∧ p.2.nm = s := by simp [revNm]
theorem HotOn.remd (h : HotOn D H b0 l) (hL : H.L = L1 ++ L2) : Remd D (D.rems (revNm L2)) (revNm L2) :=
  remd_rems h.I _ (fun s hs => by
    obtain ⟨p, hp, rfl⟩ := mem_revNm.1 hs
    exact h.nm0 (by rw [hL]; exact List.mem_append_right _ hp))
theorem HotOn.remd_look (h : HotOn D H b0 l) (hL : H.L = L1 ++ L2) {p : Nat × Sg} (hp : p ∈ L1) : (D.rems (revNm L2)).look p.2.nm = D.look p.2.nm := by
  rw [(h.remd hL).lk, if_neg]
  intro hm
  obtain ⟨q, hq, e⟩ := mem_revNm.1 hm
  have hnd := h.nmND
  rw [hL, List.map_append, List.nodup_append] at hnd
  exact hnd.2.2 _ (List.mem_map.2 ⟨p, hp, rfl⟩) _ (List.mem_map.2 ⟨q, hq, rfl⟩) e.symm
theorem HotOn.remd_len (h : HotOn D H b0 l) (hL : H.L = L1 ++ L2) : (D.rems (revNm L2)).nm.length = L1.length := by
  have hnd := h.nmND
  rw [hL, List.map_append, List.nodup_append] at hnd
  have h1 := rems_len h.I (revNm L2) (by unfold revNm; exact (List.reverse_perm _).nodup_iff.2 hnd.2.1) (fun s hs => by
    obtain ⟨p, hp, rfl⟩ := mem_revNm.1 hs
    have hpm : p ∈ H.L := by rw [hL]; exact List.mem_append_right _ hp
    obtain ⟨f, f1, -⟩ := (h.sg p hpm).1.f
    exact ⟨h.nm0 hpm, f, f1⟩)
  have h2 := h.nml
  rw [hL, List.length_append] at h2
  have h3 : (revNm L2).length = L2.length := by simp [revNm]
  omega
/-- .. and their names are kept. -/
theorem HotOn.prefix (h : HotOn D H b0 l) (hL : H.L = L1 ++ L2) : HotOn (D.rems (revNm L2)).sdir { H with L := L1 } b0 ((L1.map (·.2.l)).flatten) := by
  have hr := h.remd hL
  have hs := sdir_same hr.I
  refine h.less hL (sdir_I hr.I) (hs.room.trans hr.room) (by rw [sdir_used hr.I]; exact hr.used) (hs.n.trans hr.n) rfl (beg_fl _).2.1.symm (fun p hp => by rw [sdir_look hr.I, h.remd_look hL hp]) (fun s' hs' => ?_) (hs.nml.trans (h.remd_len hL))
  rw [sdir_look hr.I, hr.lk]
  split
  · rfl
  · rename_i hno
    refine h.only s' (fun p hp => ?_)
    rw [hL] at hp
    rcases List.mem_append.1 hp with hp | hp
    · exact hs' p hp
    · exact fun e => hno (mem_revNm.2 ⟨p, hp, e⟩)

/-! ### where a log is cut -/
theorem endOf_mono {l : List Bt} (hr : ∀ x, x ∈ l → 1 ≤ x.r.length) {b e : Int} (hc : Chain b e l) {i j : Nat} (hij : i < j) (hj : j ≤ l.length) : endOf b (l.take i) < endOf b (l.take j) := by
  have e1 : l.take j = l.take i ++ (l.take j).drop i := by
    have := List.take_append_drop i (l.take j)
    rw [List.take_take, Nat.min_eq_left (by omega)] at this
    exact this.symm
  have hcj : Chain b e (l.take j) := by
    have h := hc
    rw [← List.take_append_drop j l] at h
    exact ((chain_app _ _ _ _).1 h).1
  rw [e1] at hcj
  have h2 := ((chain_app _ _ _ _).1 hcj).2
  have h3 := chain_ge _ _ _ h2 (fun x hx => hr x (List.mem_of_mem_take (List.mem_of_mem_drop hx)))
  have h4 : ((l.take j).drop i).length = j - i := by rw [List.length_drop, List.length_take, Nat.min_eq_left hj]
  rw [e1, endOf_app]
  rw [h4] at h3
  omega
theorem endOf_inj {l : List Bt} (hr : ∀ x, x ∈ l → 1 ≤ x.r.length) {b e : Int} (hc : Chain b e l) {i j : Nat} (hi : i ≤ l.length) (h : endOf b (l.take i) ≤ endOf b (l.take j)) : i ≤ j := by
  rcases Nat.lt_or_ge j i with h1 | h1
  · have := endOf_mono hr hc h1 hi; omega
  · exact h1

/-- Where a cut falls. -/
theorem HotOn.cut_at (h : HotOn D H b0 l) (hL : H.L = L1 ++ (s, G) :: L2) (k : Nat) (hk : k ≤ l.length) (hlow : L1 = [] ∨ (G.base : Int) < endOf b0 (l.take k)) (hhigh : ∀ p, p ∈ L2 → endOf b0 (l.take k) ≤ p.2.base) :
    ∃ j, j ≤ G.l.length ∧ endOf b0 (l.take k) = endOf G.base (G.l.take j) ∧ l.take k = (L1.map (·.2.l)).flatten ++ G.l.take j := by
  obtain ⟨c1, c2, c3, c4, c5⟩ := h.split hL
  have hr : ∀ x, x ∈ l → 1 ≤ x.r.length := fun x hx => (h.ok x hx).1.n1
  obtain ⟨F0, hF0⟩ : ∃ F, (L1.map (·.2.l)).flatten = F := ⟨_, rfl⟩
  obtain ⟨F2, hF2⟩ : ∃ F, (L2.map (·.2.l)).flatten = F := ⟨_, rfl⟩
  rw [hF0, hF2] at c5
  rw [hF0] at c2 ⊢
  have t0 : l.take F0.length = F0 := by rw [c5]; exact List.take_left
  have t1 : l.take (F0.length + G.l.length) = F0 ++ G.l := by rw [c5, ← List.append_assoc, ← List.length_append]; exact List.take_left
  have hlen : l.length = F0.length + (G.l.length + F2.length) := by rw [c5]; simp
  have hm0 : F0.length ≤ k := by
    rcases hlow with h1 | h1
    · rw [h1] at hF0
      rw [← hF0]; exact Nat.zero_le _
    · refine endOf_inj hr h.ch (by omega) ?_
      rw [t0, ← c2]; omega
  have hm1 : k ≤ F0.length + G.l.length := by
    cases L2 with
    | nil =>
      rw [← hF2] at hlen
      simp at hlen
      omega
    | cons p L2 =>
      refine endOf_inj hr h.ch hk ?_
      have h1 := hhigh p List.mem_cons_self
      have hL2 : H.L = (L1 ++ [(s, G)]) ++ (p.1, p.2) :: L2 := by rw [hL]; simp
      have h2 := (h.split hL2).2.1
      have e : ((L1 ++ [(s, G)]).map (·.2.l)).flatten = F0 ++ G.l := by rw [List.map_append, List.flatten_append, hF0]; simp
      rw [e] at h2
      rw [t1, ← h2]; exact h1
  have htk : l.take k = F0 ++ G.l.take (k - F0.length) := by
    rw [c5, List.take_append, List.take_of_length_le hm0, List.take_append_of_le_length (by omega)]
  refine ⟨k - F0.length, by omega, ?_, htk⟩
  rw [htk, endOf_app, ← c2]
/-- What the cut of a segment wants. -/
theorem cut_want {l : List Bt} {b e : Int} (hc : Chain b e l) (hr : ∀ x, x ∈ l → 1 ≤ x.r.length) {j : Nat} (hj : j ≤ l.length) :
    (∃ y, l[j]? = some y ∧ y.b = endOf b (l.take j) ∧ ∀ z ∈ l.take j, z.b ≠ endOf b (l.take j)) ∨ (j = l.length ∧ endOf b (l.take j) = endOf b l ∧ ∀ z ∈ l, z.b ≠ endOf b (l.take j)) := by
  have hbef : ∀ z ∈ l.take j, z.b ≠ endOf b (l.take j) := fun z hz => by
    have h := hc
    rw [← List.take_append_drop j l] at h
    have h1 := (chain_mem _ _ _ ((chain_app _ _ _ _).1 h).1 (fun x hx => hr x (List.mem_of_mem_take hx)) z hz).2
    have := hr z (List.mem_of_mem_take hz)
    omega
  rcases Nat.lt_or_ge j l.length with h | h
  · refine .inl ⟨l[j], List.getElem?_eq_getElem h, ?_, hbef⟩
    have h2 := hc
    rw [← take_split l j h] at h2
    exact ((chain_app _ _ _ _).1 h2).2.1
  · have e : l.take j = l := List.take_of_length_le h
    rw [e] at hbef ⊢
    exact .inr ⟨by omega, rfl, hbef⟩
end
end Go.Proofs.YtncjffkpkmjgkaaGreatDoor.Sg

/-! Sf -/
namespace Go.Proofs.YtncjffkpkmjgkaaGreatDoor.Sg
open Go.RowKit Er Go.Maps

/-- What a pick says. -/
def pickF (xs : List Int) (k n : Nat) : Nat := match xs[k]? with | some x => ((Int.tmod x ((n : Int) + 1) + (n : Int) + 1) % ((n : Int) + 1)).toNat | none => 0
theorem pick_emod (x : Int) (n : Nat) : 0 ≤ (Int.tmod x ((n : Int) + 1) + (n : Int) + 1) % ((n : Int) + 1) ∧ (Int.tmod x ((n : Int) + 1) + (n : Int) + 1) % ((n : Int) + 1) < (n : Int) + 1 :=
  ⟨Int.emod_nonneg _ (by omega), Int.emod_lt_of_pos _ (by omega)⟩
theorem pickF_le (xs : List Int) (k n : Nat) : pickF xs k n ≤ n := by
  unfold pickF
  split
  · rename_i x _
    have := pick_emod x n
    omega
  · omega

set_option maxRecDepth 100000 in
theorem picked_ok (w : World) (a : Option Addr) (xs : List Int) (m c : Nat) (hm : xs.length = m) (hr : IntsR w a xs) (k n : Nat) (hn : n ≤ 1099511627776) :
    Calls Tryz.prog 72 #[.slice a m c, .int .i64 k, .int .i64 n] w fun e w' => e = .returned (.int .i64 (pickF xs k n)) ∧ w' = w := by
  by_cases hk : k < xs.length
  · obtain ⟨g, off, rfl, hg, hc⟩ := hr k xs[k] (List.getElem?_eq_getElem hk)
    obtain ⟨x, hx⟩ : ∃ x, xs[k] = x := ⟨_, rfl⟩
    have hp : ((pickF xs k n : Nat) : Int) = (Int.tmod x ((n : Int) + 1) + (n : Int) + 1) % ((n : Int) + 1) := by
      unfold pickF
      rw [List.getElem?_eq_getElem hk, hx]
      have := pick_emod x n
      dsimp only
      omega
    rw [hx] at hc
    rw [hm] at hk
    have j1 : (k : Int) < (m : Int) := by omega
    have j2 : (0 : Int) ≤ (k : Int) := by omega
    have j3 : ¬ (m : Int) ≤ (k : Int) := by omega
    obtain ⟨t1, t2, -, -⟩ := tmod_emod x ((n : Int) + 1) (by omega)
    have HP := Lib.hid hp
    have hr2 := hr
    clear hr hr2 hx hm hp
    go_enter Tryz.func72, Tryz.ntmps72
    go_wp2_with fail
    go_ret
    exact ⟨by rw [HP.out]; rfl, rfl⟩
  · have j3 : (m : Int) ≤ (k : Int) := by omega
    have hp : pickF xs k n = 0 := by unfold pickF; rw [List.getElem?_eq_none (by omega)]
    rw [hp]
    clear hr hm hk hp
    go_enter Tryz.func72, Tryz.ntmps72
    go_wp2_with fail
    go_ret
    exact ⟨rfl, rfl⟩
theorem picked_zero (w : World) (a : Option Addr) (xs : List Int) (m c : Nat) (hm : xs.length = m) (hr : IntsR w a xs) :
    Calls Tryz.prog 72 #[.slice a m c, .int .i64 0, .int .i64 0] w fun e w' => e = .returned (.int .i64 0) ∧ w' = w := by
  refine (picked_ok w a xs m c hm hr 0 0 (by omega)).mono ?_
  rintro e w' ⟨rfl, rfl⟩
  have := pickF_le xs 0 0
  rw [show pickF xs 0 0 = 0 by omega]
  exact ⟨rfl, rfl⟩
theorem picked_q (w : World) (a : Option Addr) (xs : List Int) (m c : Nat) (hm : xs.length = m) (hr : IntsR w a xs) (n : Nat) (hn : n ≤ 1099511627776) (z : Int) (hz : z = (n : Int)) :
    Calls Tryz.prog 72 #[.slice a m c, .int .i64 1, .int .i64 z] w fun e w' => e = .returned (.int .i64 (pickF xs 1 n)) ∧ w' = w := by
  subst hz
  exact picked_ok w a xs m c hm hr 1 n hn

set_option maxRecDepth 100000 in
theorem contains0 (b : Nat) (w : World) : Calls Tryz.prog 74 #[.slice none 0 0, ptr b] w fun e w' => e = .returned (.bool false) ∧ w' = w := by
  go_enter Tryz.func74, Tryz.ntmps74
  go_wp2_with fail
  have hi : Calls Tryz.prog 115 #[.slice none 0 0, ptr b] w fun e w' => e = .returned (.int .i64 (-1)) ∧ w' = w := by
    go_enter Tryz.func115, Tryz.ntmps115
    go_wp2_with fail
    go_loopg [8] 0 (fun m vi wr => vi = .int .i64 0 ∧ wr = w)
    case atStart => exact ⟨rfl, rfl⟩
    case round =>
      obtain ⟨rfl, rfl⟩ := hrel
      go_wp2_with fail
      go_ret
      exact ⟨rfl, rfl⟩
  refine hi.mono ?_
  rintro e w1 ⟨rfl, rfl⟩
  go_wp2_with fail
  go_ret
  exact ⟨rfl, rfl⟩

set_option maxRecDepth 100000 in
theorem len64_one (w : World) : Calls Tryz.prog 161 #[.int .u64 1] w fun e w' => (∃ q, e = .returned (.int .i64 q)) ∧ w' = w := by
  go_enter Tryz.func161, Tryz.ntmps161
  go_wp2_with fail
  go_ret
  exact ⟨⟨_, rfl⟩, rfl⟩
set_option maxRecDepth 100000 in
theorem len_one (w : World) : Calls Tryz.prog 117 #[.int .u64 1] w fun e w' => (∃ q, e = .returned (.int .i64 q)) ∧ w' = w := by
  go_enter Tryz.func117, Tryz.ntmps117
  go_wp2_with fail
  refine (len64_one w).mono ?_
  rintro e w1 ⟨⟨q, rfl⟩, rfl⟩
  go_wp2_with fail
  go_ret
  exact ⟨⟨_, rfl⟩, rfl⟩
abbrev cmpFn : Value := .func (.func 76) #[] #[]
set_option maxRecDepth 100000 in
theorem insort_one (v : Value) (w : World) : Calls Tryz.prog 152 #[v, .int .i64 0, .int .i64 1, cmpFn] w fun e w' => e = .returned (.tuple #[]) ∧ w' = w := by
  go_enter Tryz.func152, Tryz.ntmps152
  go_wp2_with fail
  go_loopg [8] 0 (fun m vi wr => vi = .int .i64 1 ∧ wr = w)
  case atStart => exact ⟨rfl, rfl⟩
  case round =>
    obtain ⟨rfl, rfl⟩ := hrel
    go_wp2_with fail
    first | go_end0 | refine bodyPost_ret (results_none rfl _ _ _) rfl ?_
    exact ⟨rfl, rfl⟩
set_option maxRecDepth 100000 in
theorem pdq_one (v : Value) (q : Int) (w : World) : Calls Tryz.prog 116 #[v, .int .i64 0, .int .i64 1, .int .i64 q, cmpFn] w fun e w' => e = .returned (.tuple #[]) ∧ w' = w := by
  go_enter Tryz.func116, Tryz.ntmps116
  go_wp2_with fail
  go_loopg [1, 2, 3, 10, 11] 0 (fun m va vb vl vx vy wr => va = .int .i64 0 ∧ vb = .int .i64 1 ∧ wr = w)
  case atStart => exact ⟨rfl, rfl, rfl⟩
  case round =>
    obtain ⟨rfl, rfl, rfl⟩ := hrel
    go_wp2_with fail
    refine (insort_one v _).mono ?_
    rintro e w1 ⟨rfl, rfl⟩
    go_wp2_with fail
    first | go_end0 | refine bodyPost_ret (results_none rfl _ _ _) rfl ?_
    exact ⟨rfl, rfl⟩
set_option maxRecDepth 100000 in
theorem sort_one (a : Option Addr) (c : Nat) (w : World) : Calls Tryz.prog 75 #[.slice a 1 c, cmpFn] w fun e w' => e = .returned (.tuple #[]) ∧ w' = w := by
  go_enter Tryz.func75, Tryz.ntmps75
  go_wp2_with fail
  refine (len_one w).mono ?_
  rintro e w1 ⟨⟨q, rfl⟩, rfl⟩
  go_wp2_with fail
  refine (pdq_one _ q _).mono ?_
  rintro e w1 ⟨rfl, rfl⟩
  go_wp2_with fail
  first | go_end0 | refine bodyPost_ret (results_none rfl _ _ _) rfl ?_
  exact ⟨rfl, rfl⟩

section
variable {S : List Nat} {E : Nat → Addr} {B : Nat} {P : Pm} {s : Nat} {G : Sg} {D : Dk} {A Ad F : Mm} {w : World}
set_option maxRecDepth 100000 in
theorem clonepl_nil (w : World) : Calls Tryz.prog 135 #[.slice none 0 0] w fun e w' => e = .returned (.slice none 0 0) ∧ w' = w := by
  have hq := fun (w : World) => Lib.run_eql_slice_nil (P := Tryz.prog) w 102 112 none 0 0 0 0 Tryz.underlying102
  go_enter Tryz.func135, Tryz.ntmps135
  go_wp2_with fail
  go_ret
  exact ⟨rfl, rfl⟩
end
end Go.Proofs.YtncjffkpkmjgkaaGreatDoor.Sg

/-! Sm -/
namespace Go.Proofs.YtncjffkpkmjgkaaGreatDoor.Sg
open Go.RowKit Er Go.Maps

section
variable {S : List Nat} {E : Nat → Addr} {B : Nat} {P : Pm} {s : Nat} {G : Sg} {D : Dk} {A Ad F : Mm} {w : World}

set_option maxRecDepth 100000 in
set_option maxHeartbeats 2000000 in
theorem scut_empty_k (C : Ctx S E B P) (hok : D.ok = true) (hG : SgM s G A) (hO : SegOn D.un G) (hD : DkM P G.d D Ad) (h0 : G.l = []) (o : Int) (ho : o = G.base) (hH : Hp w P (A ++ (Ad ++ F))) :
    Calls Tryz.prog 96 #[ptr s, .int .i64 o] w fun e w' => e = .returned .nilIface ∧ ∃ P' A' Ad' D', Sub P P' ∧ SgM s (G.cutK 0) A' ∧ DkM P' G.d D' Ad' ∧ SegOn D'.un (G.cutK 0) ∧ DkSame D.un D'.un ∧ D'.used ≤ D.used ∧
      (∀ s', s' ≠ G.nm → D'.look s' = D.look s') ∧ PowOn D D' ∧ Hp w' P' (A' ++ (Ad' ++ F)) := by
  obtain ⟨f, h1, h2, h3⟩ := hO.f
  have hr := hO.room
  have hu := hO.used
  have hnm := hO.nm
  have hW := hO.W
  have hz0 : sizes G.l = 0 := by rw [h0]; rfl
  obtain ⟨kz, hkz⟩ : ∃ z, sizes G.l = z := ⟨_, rfl⟩
  have hz1 : kz = 0 := by rw [← hkz, hz0]
  have hft : f.b.take kz = flatB (G.l.take 0) := by rw [hz1]; rfl
  have hks : kz = sizes (G.l.take 0) := by rw [hz1]; rfl
  have hus := cut_used hO.I h1 kz (by omega)
  have hO2 : SegOn (D.un.cut f kz) (G.cutK 0) := ⟨cut_I hO.I f _, (fun x hx => by cases hx), (fun x hx => by cases hx), hO.base, hO.nm, ⟨{ f with b := f.b.take kz, s := kz }, by show Dk.look _ G.nm = _; rw [cut_look hO.I h1, if_pos rfl], hft, hks⟩, by rw [(cut_same hO.I f _).room]; exact hr, by rw [(cut_same hO.I f _).room]; omega⟩
  have hflen : f.b.length ≤ D.used := used_ge h1
  have hr' : D.room ≤ 4194304 := hr
  have hu' : D.used ≤ D.room := hu
  obtain ⟨P1, hs1, hH1, hm1⟩ := hH.lay (.cells #[.int .i64 o] 2)
  have hbx : Pers P1 (fun w' => w'.cell? ⟨w.heap.size, 0, none⟩ = some (.int .i64 o)) := fun w' hw => by
    have := hw.m _ _ hm1
    simp [World.cell?, this]
  have hix : idxB o G.l = -1 := by rw [h0]; rfl
  obtain ⟨en, hen⟩ : ∃ e, G.end_ = e := ⟨_, rfl⟩
  have hoe : o = en := by rw [← hen, ho, end_eq, h0]; rfl
  obtain ⟨lv0, Al0, hA0, hrow⟩ := id hG
  have hc4 : ∀ w P F, Hp w P (A ++ F) → w.cell? ⟨s, 4, none⟩ = some lv0 := fun w P F hH => hH.cell (b := s) (c := sgCells G lv0) (t := 104) (fr := (0, 0)) (by simp [hA0]) rfl
  have hbl : s < w.heap.size := World.block_lt_of_cell? _ _ (hc4 _ _ _ hH)
  rw [h0] at hrow
  have hrc : lv0 = .slice none 0 0 ∨ ∃ g c, lv0 = .slice (some ⟨g, 0, none⟩) 0 c := by
    rcases hrow.2 with ⟨h, -⟩ | ⟨g, cap, cur, h, -⟩
    · exact .inl h
    · exact .inr ⟨g, cap, h⟩
  have HKZ := Lib.hid hkz
  have HZK : Hid ((G.cutK 0).kept = kz) := hks.symm
  have hsame := cut_same hO.I f kz
  rw [← cut_un] at hO2 hsame hus
  have HSM := Lib.hid hsame
  have HUS : Hid ((D.cut f kz).used ≤ D.used) := by
    show _ ≤ _
    have e1 := un_used (D.cut f kz)
    have e2 := un_used D
    omega
  have HLK : Hid (∀ s', s' ≠ G.nm → (D.cut f kz).look s' = D.look s') := fun s' hs' => by
    have h := cut_look hO.I h1 kz s'
    rw [← cut_un, un_look, un_look, if_neg hs'] at h
    exact h
  have HF := Lib.hid (find_on hok h1)
  have HPO := Lib.hid (cut_on hok f kz)
  have HL : Hid (ffind D.fl f.blk = some f) := (look_some h1).2
  have HO2 := Lib.hid hO2
  have HW := Lib.hid hW
  have HBX := Lib.hid hbx
  have HM1 := Lib.hid hm1
  have HS1 := Lib.hid hs1
  have H1 := Lib.hid hH1
  have HEN := Lib.hid hen
  have HOE := Lib.hid hoe
  have HIX := Lib.hid hix
  have hkn : kz ≤ f.b.length := by omega
  have hfl2 : f.b.length ≤ 1099511627776 := by omega
  rcases hrc with rfl | ⟨g, c, rfl⟩
  · have HC4 := Lib.hid hc4
    have c4 := hc4 _ _ _ hH1
    clear hsame hok h1 h2 h3 hH hO hO2 hW hen hH1 hm1 hs1 hbx hkz hft hus h0 hoe hix hz0 hz1 hks ho hrow hA0 hc4
    go_enter Tryz.func96, Tryz.ntmps96
    go_wp2_with fail
    refine (idxfn_ok hG HW.out _ c4 w.heap.size o HM1.out H1.out).mono ?_
    rintro e w2 ⟨rfl, hH2⟩
    rw [HIX.out]
    have H2 := Lib.hid hH2
    clear hH2
    go_wp2_with fail
    refine wp_region_hp (by kernel_rfl) (by decide) _ _ H2.out (fun i _ v => match i with | 0 => v = .int .i64 (-1) | 1 => v = .bool true | 2 => v = .bool true | 3 => v = .int .i64 o | 4 => v = ptr s | 5 => v = .int .i64 en | 6 => v = .bool false | 7 => v = .bool false | _ => True) (by intro i P P' v _ h; exact h) ?_ ?_
    · intro i o ho u wq Pq hsq hHq hp K hK
      rcases i with _ | _ | _ | _ | _ | _ | _ | _ | i
      · cases ho
        simp only [frOf, Act.put, List.setIfInBounds_toArray, List.set_cons_zero, List.set_cons_succ, Nat.zero_add, Nat.reduceAdd] at hK ⊢
        go_simp
        exact hK _ wq Pq (Sub.refl _) hHq rfl
      · cases ho
        have h0 : u 0 = .int .i64 (-1) := hp ⟨0, .data⟩ (by simp) rfl
        simp only [frOf, Act.put, List.setIfInBounds_toArray, List.set_cons_zero, List.set_cons_succ, Nat.zero_add, Nat.reduceAdd] at hK ⊢
        simp only [h0] at hK ⊢
        go_simp
        exact hK _ wq Pq (Sub.refl _) hHq (by rfl)
      · cases ho
        have h1 : u 1 = .bool true := hp ⟨1, .data⟩ (by simp) rfl
        simp only [frOf, Act.put, List.setIfInBounds_toArray, List.set_cons_zero, List.set_cons_succ, Nat.zero_add, Nat.reduceAdd] at hK ⊢
        simp only [h1] at hK ⊢
        go_simp
        exact hK _ wq Pq (Sub.refl _) hHq rfl
      · cases ho
        have h2 : u 2 = .bool true := hp ⟨2, .guard⟩ (by simp) rfl
        simp only [frOf, Act.put, List.setIfInBounds_toArray, List.set_cons_zero, List.set_cons_succ, Nat.zero_add, Nat.reduceAdd] at hK ⊢
        simp only [h2] at hK ⊢
        have kb : wq.cell? ⟨w.heap.size, 0, none⟩ = some (.int .i64 o) := hHq.use (HBX.out.sub hsq)
        go_simp
        exact hK _ wq Pq (Sub.refl _) hHq rfl
      · cases ho
        have h2 : u 2 = .bool true := hp ⟨2, .guard⟩ (by simp) rfl
        simp only [frOf, Act.put, List.setIfInBounds_toArray, List.set_cons_zero, List.set_cons_succ, Nat.zero_add, Nat.reduceAdd] at hK ⊢
        simp only [h2] at hK ⊢
        go_simp
        exact hK _ wq Pq (Sub.refl _) hHq rfl
      · cases ho
        have h4 : u 4 = ptr s := hp ⟨4, .data⟩ (by simp) rfl
        have h2 : u 2 = .bool true := hp ⟨2, .guard⟩ (by simp) rfl
        simp only [frOf, Act.put, List.setIfInBounds_toArray, List.set_cons_zero, List.set_cons_succ, Nat.zero_add, Nat.reduceAdd] at hK ⊢
        simp only [h4, h2] at hK ⊢
        go_simp
        with_reducible refine (end_any hG HW.out hHq).mono ?_
        rintro e w3 ⟨rfl, hH3⟩
        rw [HEN.out]
        exact hK _ w3 Pq (Sub.refl _) hH3 rfl
      · cases ho
        have h3 : u 3 = .int .i64 o := hp ⟨3, .data⟩ (by simp) rfl
        have h5 : u 5 = .int .i64 en := hp ⟨5, .data⟩ (by simp) rfl
        have h2 : u 2 = .bool true := hp ⟨2, .guard⟩ (by simp) rfl
        simp only [frOf, Act.put, List.setIfInBounds_toArray, List.set_cons_zero, List.set_cons_succ, Nat.zero_add, Nat.reduceAdd] at hK ⊢
        simp only [h3, h5, h2] at hK ⊢
        go_simp
        exact hK _ wq Pq (Sub.refl _) hHq (by simp [HOE.out])
      · cases ho
        have h2 : u 2 = .bool true := hp ⟨2, .data⟩ (by simp) rfl
        have h6 : u 6 = .bool false := hp ⟨6, .data⟩ (by simp) rfl
        simp only [frOf, Act.put, List.setIfInBounds_toArray, List.set_cons_zero, List.set_cons_succ, Nat.zero_add, Nat.reduceAdd] at hK ⊢
        simp only [h2, h6] at hK ⊢
        go_simp
        exact hK _ wq Pq (Sub.refl _) hHq rfl
      · exact absurd ho (by simp)
    intro u wq Pq hsq hHq hR
    have h7 : u 7 = .bool false := hR 7 (by decide)
    simp only [frOf, List.setIfInBounds_toArray, List.set_cons_zero, List.set_cons_succ, Nat.zero_add, Nat.reduceAdd]
    simp only [h7]
    have H3 := Lib.hid (hHq.weaken hsq)
    clear hR hHq hsq h7
    have c4b := HC4.out _ _ _ H3.out
    go_wp2_with fail
    refine (ssize_any hG HW.out H3.out).mono ?_
    rintro e w4 ⟨rfl, hH4⟩
    rw [HKZ.out]
    have d4 := HC4.out _ _ _ hH4
    obtain ⟨lv4, k0, k1, -, -, -, -⟩ := hG.cells hH4
    have H4 := Lib.hid hH4
    clear hH4
    go_wp2_with fail
    go_region_held3 (fun w' => w'.cell? ⟨s, 0, none⟩ = some (ptr G.d) ∧ w'.cell? ⟨s, 1, none⟩ = some (str G.nm))
      (first
        | go_keep
        | exact ⟨k0, k1⟩)
      (first
        | (go_at_call 61
           with_reducible refine (dcut_ok (C.sub HS1.out) (hD.sub HS1.out) (Hp.mid H4.out.drew) G.nm (by omega) f.blk HF.out f HL.out kz hkn hfl2).mono ?_
           rintro e w5 ⟨rfl, P5, Ad5, hs5, hD5, hH5⟩
           have hH6 := Hp.mid hH5
           obtain ⟨lv5, k0, k1, -, -, -, -⟩ := hG.cells hH6))
    have d6 := HC4.out _ _ _ hH6
    have H6 := Lib.hid hH6
    have HD5 := Lib.hid hD5
    have HS5 := Lib.hid (HS1.out.trans hs5)
    clear hH5 hH6 hD5 hs5 d4
    go_wp2_with fail
    obtain ⟨A7, hA7, hr7⟩ : ∃ A7 : Mm, A7 = [] ∧ RowM 112 6 (.slice none 0 0) 0 [] A7 := ⟨[], rfl, rowM_nil _ _⟩
    refine (clonepl_nil _).mono ?_
    rintro e w7 ⟨rfl, hw7⟩
    have hH7 : Hp w7 P5 (A7 ++ (A ++ (Ad5 ++ F))) := by rw [hA7, hw7]; exact H6.out
    clear hw7 hA7
    obtain ⟨lv, Al, hA, hr⟩ := id hG
    have hH8 : Hp w7 P5 ((s, Obj.cells (sgCells G lv) 104 (0, 0)) :: (A7 ++ (Al ++ (Ad5 ++ F)))) := by
      rw [hA] at hH7
      have := Hp.mid (A := A7) (B := [(s, Obj.cells (sgCells G lv) 104 (0, 0))]) (C := Al ++ (Ad5 ++ F)) (by simpa using hH7)
      simpa using this
    have e4 := (@Hp.cell _ _ _ hH8 s _ _ (0, 0) List.mem_cons_self) (i := 4) rfl
    have e5 := (@Hp.cell _ _ _ hH8 s _ _ (0, 0) List.mem_cons_self) (i := 5) rfl
    have f4 := @Hp.frozen _ _ _ hH8 s _ _ List.mem_cons_self 4
    have f5 := @Hp.frozen _ _ _ hH8 s _ _ List.mem_cons_self 5
    have H8 := Lib.hid hH8
    have HR7 := Lib.hid hr7
    clear hH7 hH8 hr7 hA hr d6
    go_wp2_with fail
    go_ret
    refine ⟨rfl, P5, (s, Obj.cells (sgCells (G.cutK 0) (.slice none 0 0)) 104 (0, 0)) :: A7, Ad5, D.cut f kz, HS5.out, ⟨_, A7, rfl, ?_⟩, HD5.out, HO2.out, HSM.out, HUS.out, HLK.out, HPO.out, ?_⟩
    · have hl : (G.cutK 0).l = [] := by show G.l.take 0 = []; rfl
      rw [hl]; exact HR7.out
    · have h1 := (H8.out.set 4 (.slice none 0 0)).set 5 (.int .i64 kz)
      have h2 := (Hp.mid (A := (s, _) :: A7) (B := Al) (C := Ad5 ++ F) h1).drop
      have hz : (G.cutK 0).kept = kz := HZK.out
      unfold sgCells
      rw [hz]
      simpa [sgCells, Sg.cutK] using h2

  · by_cases hc0 : c = 0
    · subst hc0
      have HC4 := Lib.hid hc4
      have c4 := hc4 _ _ _ hH1
      clear hsame hok h1 h2 h3 hH hO hO2 hW hen hH1 hm1 hs1 hbx hkz hft hus h0 hoe hix hz0 hz1 hks ho hrow hA0 hc4
      go_enter Tryz.func96, Tryz.ntmps96
      go_wp2_with fail
      refine (idxfn_ok hG HW.out _ c4 w.heap.size o HM1.out H1.out).mono ?_
      rintro e w2 ⟨rfl, hH2⟩
      rw [HIX.out]
      have H2 := Lib.hid hH2
      clear hH2
      go_wp2_with fail
      refine wp_region_hp (by kernel_rfl) (by decide) _ _ H2.out (fun i _ v => match i with | 0 => v = .int .i64 (-1) | 1 => v = .bool true | 2 => v = .bool true | 3 => v = .int .i64 o | 4 => v = ptr s | 5 => v = .int .i64 en | 6 => v = .bool false | 7 => v = .bool false | _ => True) (by intro i P P' v _ h; exact h) ?_ ?_
      · intro i o ho u wq Pq hsq hHq hp K hK
        rcases i with _ | _ | _ | _ | _ | _ | _ | _ | i
        · cases ho
          simp only [frOf, Act.put, List.setIfInBounds_toArray, List.set_cons_zero, List.set_cons_succ, Nat.zero_add, Nat.reduceAdd] at hK ⊢
          go_simp
          exact hK _ wq Pq (Sub.refl _) hHq rfl
        · cases ho
          have h0 : u 0 = .int .i64 (-1) := hp ⟨0, .data⟩ (by simp) rfl
          simp only [frOf, Act.put, List.setIfInBounds_toArray, List.set_cons_zero, List.set_cons_succ, Nat.zero_add, Nat.reduceAdd] at hK ⊢
          simp only [h0] at hK ⊢
          go_simp
          exact hK _ wq Pq (Sub.refl _) hHq (by rfl)
        · cases ho
          have h1 : u 1 = .bool true := hp ⟨1, .data⟩ (by simp) rfl
          simp only [frOf, Act.put, List.setIfInBounds_toArray, List.set_cons_zero, List.set_cons_succ, Nat.zero_add, Nat.reduceAdd] at hK ⊢
          simp only [h1] at hK ⊢
          go_simp
          exact hK _ wq Pq (Sub.refl _) hHq rfl
        · cases ho
          have h2 : u 2 = .bool true := hp ⟨2, .guard⟩ (by simp) rfl
          simp only [frOf, Act.put, List.setIfInBounds_toArray, List.set_cons_zero, List.set_cons_succ, Nat.zero_add, Nat.reduceAdd] at hK ⊢
          simp only [h2] at hK ⊢
          have kb : wq.cell? ⟨w.heap.size, 0, none⟩ = some (.int .i64 o) := hHq.use (HBX.out.sub hsq)
          go_simp
          exact hK _ wq Pq (Sub.refl _) hHq rfl
        · cases ho
          have h2 : u 2 = .bool true := hp ⟨2, .guard⟩ (by simp) rfl
          simp only [frOf, Act.put, List.setIfInBounds_toArray, List.set_cons_zero, List.set_cons_succ, Nat.zero_add, Nat.reduceAdd] at hK ⊢
          simp only [h2] at hK ⊢
          go_simp
          exact hK _ wq Pq (Sub.refl _) hHq rfl
        · cases ho
          have h4 : u 4 = ptr s := hp ⟨4, .data⟩ (by simp) rfl
          have h2 : u 2 = .bool true := hp ⟨2, .guard⟩ (by simp) rfl
          simp only [frOf, Act.put, List.setIfInBounds_toArray, List.set_cons_zero, List.set_cons_succ, Nat.zero_add, Nat.reduceAdd] at hK ⊢
          simp only [h4, h2] at hK ⊢
          go_simp
          with_reducible refine (end_any hG HW.out hHq).mono ?_
          rintro e w3 ⟨rfl, hH3⟩
          rw [HEN.out]
          exact hK _ w3 Pq (Sub.refl _) hH3 rfl
        · cases ho
          have h3 : u 3 = .int .i64 o := hp ⟨3, .data⟩ (by simp) rfl
          have h5 : u 5 = .int .i64 en := hp ⟨5, .data⟩ (by simp) rfl
          have h2 : u 2 = .bool true := hp ⟨2, .guard⟩ (by simp) rfl
          simp only [frOf, Act.put, List.setIfInBounds_toArray, List.set_cons_zero, List.set_cons_succ, Nat.zero_add, Nat.reduceAdd] at hK ⊢
          simp only [h3, h5, h2] at hK ⊢
          go_simp
          exact hK _ wq Pq (Sub.refl _) hHq (by simp [HOE.out])
        · cases ho
          have h2 : u 2 = .bool true := hp ⟨2, .data⟩ (by simp) rfl
          have h6 : u 6 = .bool false := hp ⟨6, .data⟩ (by simp) rfl
          simp only [frOf, Act.put, List.setIfInBounds_toArray, List.set_cons_zero, List.set_cons_succ, Nat.zero_add, Nat.reduceAdd] at hK ⊢
          simp only [h2, h6] at hK ⊢
          go_simp
          exact hK _ wq Pq (Sub.refl _) hHq rfl
        · exact absurd ho (by simp)
      intro u wq Pq hsq hHq hR
      have h7 : u 7 = .bool false := hR 7 (by decide)
      simp only [frOf, List.setIfInBounds_toArray, List.set_cons_zero, List.set_cons_succ, Nat.zero_add, Nat.reduceAdd]
      simp only [h7]
      have H3 := Lib.hid (hHq.weaken hsq)
      clear hR hHq hsq h7
      have c4b := HC4.out _ _ _ H3.out
      go_wp2_with fail
      refine (ssize_any hG HW.out H3.out).mono ?_
      rintro e w4 ⟨rfl, hH4⟩
      rw [HKZ.out]
      have d4 := HC4.out _ _ _ hH4
      obtain ⟨lv4, k0, k1, -, -, -, -⟩ := hG.cells hH4
      have H4 := Lib.hid hH4
      clear hH4
      go_wp2_with fail
      go_region_held3 (fun w' => w'.cell? ⟨s, 0, none⟩ = some (ptr G.d) ∧ w'.cell? ⟨s, 1, none⟩ = some (str G.nm))
        (first
          | go_keep
          | exact ⟨k0, k1⟩)
        (first
          | (go_at_call 61
             with_reducible refine (dcut_ok (C.sub HS1.out) (hD.sub HS1.out) (Hp.mid H4.out.drew) G.nm (by omega) f.blk HF.out f HL.out kz hkn hfl2).mono ?_
             rintro e w5 ⟨rfl, P5, Ad5, hs5, hD5, hH5⟩
             have hH6 := Hp.mid hH5
             obtain ⟨lv5, k0, k1, -, -, -, -⟩ := hG.cells hH6))
      have d6 := HC4.out _ _ _ hH6
      have H6 := Lib.hid hH6
      have HD5 := Lib.hid hD5
      have HS5 := Lib.hid (HS1.out.trans hs5)
      clear hH5 hH6 hD5 hs5 d4
      go_wp2_with fail
      refine (clonepl_ok g 0 0 [] rfl (by simp) (by simp) (by omega) H6.out).mono ?_
      rintro e w7 ⟨v7, A7, rfl, hr7, hH7⟩
      obtain ⟨a7, c7, rfl⟩ := hr7.shape
      obtain ⟨lv, Al, hA, hr⟩ := id hG
      have hH8 : Hp w7 P5 ((s, Obj.cells (sgCells G lv) 104 (0, 0)) :: (A7 ++ (Al ++ (Ad5 ++ F)))) := by
        rw [hA] at hH7
        have := Hp.mid (A := A7) (B := [(s, Obj.cells (sgCells G lv) 104 (0, 0))]) (C := Al ++ (Ad5 ++ F)) (by simpa using hH7)
        simpa using this
      have e4 := (@Hp.cell _ _ _ hH8 s _ _ (0, 0) List.mem_cons_self) (i := 4) rfl
      have e5 := (@Hp.cell _ _ _ hH8 s _ _ (0, 0) List.mem_cons_self) (i := 5) rfl
      have f4 := @Hp.frozen _ _ _ hH8 s _ _ List.mem_cons_self 4
      have f5 := @Hp.frozen _ _ _ hH8 s _ _ List.mem_cons_self 5
      have H8 := Lib.hid hH8
      have HR7 := Lib.hid hr7
      clear hH7 hH8 hr7 hA hr d6
      go_wp2_with fail
      go_ret
      refine ⟨rfl, P5, (s, Obj.cells (sgCells (G.cutK 0) (.slice a7 0 c7)) 104 (0, 0)) :: A7, Ad5, D.cut f kz, HS5.out, ⟨_, A7, rfl, ?_⟩, HD5.out, HO2.out, HSM.out, HUS.out, HLK.out, HPO.out, ?_⟩
      · have hl : (G.cutK 0).l = [] := by show G.l.take 0 = []; rfl
        rw [hl]; exact HR7.out
      · have h1 := (H8.out.set 4 (.slice a7 0 c7)).set 5 (.int .i64 kz)
        have h2 := (Hp.mid (A := (s, _) :: A7) (B := Al) (C := Ad5 ++ F) h1).drop
        have hz : (G.cutK 0).kept = kz := HZK.out
        unfold sgCells
        rw [hz]
        simpa [sgCells, Sg.cutK] using h2

    · have HC4 := Lib.hid hc4
      have c4 := hc4 _ _ _ hH1
      clear hsame hok h1 h2 h3 hH hO hO2 hW hen hH1 hm1 hs1 hbx hkz hft hus h0 hoe hix hz0 hz1 hks ho hrow hA0 hc4
      go_enter Tryz.func96, Tryz.ntmps96
      go_wp2_with fail
      refine (idxfn_ok hG HW.out _ c4 w.heap.size o HM1.out H1.out).mono ?_
      rintro e w2 ⟨rfl, hH2⟩
      rw [HIX.out]
      have H2 := Lib.hid hH2
      clear hH2
      go_wp2_with fail
      refine wp_region_hp (by kernel_rfl) (by decide) _ _ H2.out (fun i _ v => match i with | 0 => v = .int .i64 (-1) | 1 => v = .bool true | 2 => v = .bool true | 3 => v = .int .i64 o | 4 => v = ptr s | 5 => v = .int .i64 en | 6 => v = .bool false | 7 => v = .bool false | _ => True) (by intro i P P' v _ h; exact h) ?_ ?_
      · intro i o ho u wq Pq hsq hHq hp K hK
        rcases i with _ | _ | _ | _ | _ | _ | _ | _ | i
        · cases ho
          simp only [frOf, Act.put, List.setIfInBounds_toArray, List.set_cons_zero, List.set_cons_succ, Nat.zero_add, Nat.reduceAdd] at hK ⊢
          go_simp
          exact hK _ wq Pq (Sub.refl _) hHq rfl
        · cases ho
          have h0 : u 0 = .int .i64 (-1) := hp ⟨0, .data⟩ (by simp) rfl
          simp only [frOf, Act.put, List.setIfInBounds_toArray, List.set_cons_zero, List.set_cons_succ, Nat.zero_add, Nat.reduceAdd] at hK ⊢
          simp only [h0] at hK ⊢
          go_simp
          exact hK _ wq Pq (Sub.refl _) hHq (by rfl)
        · cases ho
          have h1 : u 1 = .bool true := hp ⟨1, .data⟩ (by simp) rfl
          simp only [frOf, Act.put, List.setIfInBounds_toArray, List.set_cons_zero, List.set_cons_succ, Nat.zero_add, Nat.reduceAdd] at hK ⊢
          simp only [h1] at hK ⊢
          go_simp
          exact hK _ wq Pq (Sub.refl _) hHq rfl
        · cases ho
          have h2 : u 2 = .bool true := hp ⟨2, .guard⟩ (by simp) rfl
          simp only [frOf, Act.put, List.setIfInBounds_toArray, List.set_cons_zero, List.set_cons_succ, Nat.zero_add, Nat.reduceAdd] at hK ⊢
          simp only [h2] at hK ⊢
          have kb : wq.cell? ⟨w.heap.size, 0, none⟩ = some (.int .i64 o) := hHq.use (HBX.out.sub hsq)
          go_simp
          exact hK _ wq Pq (Sub.refl _) hHq rfl
        · cases ho
          have h2 : u 2 = .bool true := hp ⟨2, .guard⟩ (by simp) rfl
          simp only [frOf, Act.put, List.setIfInBounds_toArray, List.set_cons_zero, List.set_cons_succ, Nat.zero_add, Nat.reduceAdd] at hK ⊢
          simp only [h2] at hK ⊢
          go_simp
          exact hK _ wq Pq (Sub.refl _) hHq rfl
        · cases ho
          have h4 : u 4 = ptr s := hp ⟨4, .data⟩ (by simp) rfl
          have h2 : u 2 = .bool true := hp ⟨2, .guard⟩ (by simp) rfl
          simp only [frOf, Act.put, List.setIfInBounds_toArray, List.set_cons_zero, List.set_cons_succ, Nat.zero_add, Nat.reduceAdd] at hK ⊢
          simp only [h4, h2] at hK ⊢
          go_simp
          with_reducible refine (end_any hG HW.out hHq).mono ?_
          rintro e w3 ⟨rfl, hH3⟩
          rw [HEN.out]
          exact hK _ w3 Pq (Sub.refl _) hH3 rfl
        · cases ho
          have h3 : u 3 = .int .i64 o := hp ⟨3, .data⟩ (by simp) rfl
          have h5 : u 5 = .int .i64 en := hp ⟨5, .data⟩ (by simp) rfl
          have h2 : u 2 = .bool true := hp ⟨2, .guard⟩ (by simp) rfl
          simp only [frOf, Act.put, List.setIfInBounds_toArray, List.set_cons_zero, List.set_cons_succ, Nat.zero_add, Nat.reduceAdd] at hK ⊢
          simp only [h3, h5, h2] at hK ⊢
          go_simp
          exact hK _ wq Pq (Sub.refl _) hHq (by simp [HOE.out])
        · cases ho
          have h2 : u 2 = .bool true := hp ⟨2, .data⟩ (by simp) rfl
          have h6 : u 6 = .bool false := hp ⟨6, .data⟩ (by simp) rfl
          simp only [frOf, Act.put, List.setIfInBounds_toArray, List.set_cons_zero, List.set_cons_succ, Nat.zero_add, Nat.reduceAdd] at hK ⊢
          simp only [h2, h6] at hK ⊢
          go_simp
          exact hK _ wq Pq (Sub.refl _) hHq rfl
        · exact absurd ho (by simp)
      intro u wq Pq hsq hHq hR
      have h7 : u 7 = .bool false := hR 7 (by decide)
      simp only [frOf, List.setIfInBounds_toArray, List.set_cons_zero, List.set_cons_succ, Nat.zero_add, Nat.reduceAdd]
      simp only [h7]
      have H3 := Lib.hid (hHq.weaken hsq)
      clear hR hHq hsq h7
      have c4b := HC4.out _ _ _ H3.out
      go_wp2_with fail
      refine (ssize_any hG HW.out H3.out).mono ?_
      rintro e w4 ⟨rfl, hH4⟩
      rw [HKZ.out]
      have d4 := HC4.out _ _ _ hH4
      obtain ⟨lv4, k0, k1, -, -, -, -⟩ := hG.cells hH4
      have H4 := Lib.hid hH4
      clear hH4
      go_wp2_with fail
      go_region_held3 (fun w' => w'.cell? ⟨s, 0, none⟩ = some (ptr G.d) ∧ w'.cell? ⟨s, 1, none⟩ = some (str G.nm))
        (first
          | go_keep
          | exact ⟨k0, k1⟩)
        (first
          | (go_at_call 61
             with_reducible refine (dcut_ok (C.sub HS1.out) (hD.sub HS1.out) (Hp.mid H4.out.drew) G.nm (by omega) f.blk HF.out f HL.out kz hkn hfl2).mono ?_
             rintro e w5 ⟨rfl, P5, Ad5, hs5, hD5, hH5⟩
             have hH6 := Hp.mid hH5
             obtain ⟨lv5, k0, k1, -, -, -, -⟩ := hG.cells hH6))
      have d6 := HC4.out _ _ _ hH6
      have H6 := Lib.hid hH6
      have HD5 := Lib.hid hD5
      have HS5 := Lib.hid (HS1.out.trans hs5)
      clear hH5 hH6 hD5 hs5 d4
      go_wp2_with fail
      refine (clonepl_ok g 0 c [] rfl (by simp) (by simp) (by omega) H6.out).mono ?_
      rintro e w7 ⟨v7, A7, rfl, hr7, hH7⟩
      obtain ⟨a7, c7, rfl⟩ := hr7.shape
      obtain ⟨lv, Al, hA, hr⟩ := id hG
      have hH8 : Hp w7 P5 ((s, Obj.cells (sgCells G lv) 104 (0, 0)) :: (A7 ++ (Al ++ (Ad5 ++ F)))) := by
        rw [hA] at hH7
        have := Hp.mid (A := A7) (B := [(s, Obj.cells (sgCells G lv) 104 (0, 0))]) (C := Al ++ (Ad5 ++ F)) (by simpa using hH7)
        simpa using this
      have e4 := (@Hp.cell _ _ _ hH8 s _ _ (0, 0) List.mem_cons_self) (i := 4) rfl
      have e5 := (@Hp.cell _ _ _ hH8 s _ _ (0, 0) List.mem_cons_self) (i := 5) rfl
      have f4 := @Hp.frozen _ _ _ hH8 s _ _ List.mem_cons_self 4
      have f5 := @Hp.frozen _ _ _ hH8 s _ _ List.mem_cons_self 5
      have H8 := Lib.hid hH8
      have HR7 := Lib.hid hr7
      clear hH7 hH8 hr7 hA hr d6
      go_wp2_with fail
      go_ret
      refine ⟨rfl, P5, (s, Obj.cells (sgCells (G.cutK 0) (.slice a7 0 c7)) 104 (0, 0)) :: A7, Ad5, D.cut f kz, HS5.out, ⟨_, A7, rfl, ?_⟩, HD5.out, HO2.out, HSM.out, HUS.out, HLK.out, HPO.out, ?_⟩
      · have hl : (G.cutK 0).l = [] := by show G.l.take 0 = []; rfl
        rw [hl]; exact HR7.out
      · have h1 := (H8.out.set 4 (.slice a7 0 c7)).set 5 (.int .i64 kz)
        have h2 := (Hp.mid (A := (s, _) :: A7) (B := Al) (C := Ad5 ++ F) h1).drop
        have hz : (G.cutK 0).kept = kz := HZK.out
        unfold sgCells
        rw [hz]
        simpa [sgCells, Sg.cutK] using h2

theorem scut_empty (C : Ctx S E B P) (hG : SgM s G A) (hO : SegOn D G) (hD : DkM P G.d D Ad) (h0 : G.l = []) (o : Int) (ho : o = G.base) (hH : Hp w P (A ++ (Ad ++ F))) :
    Calls Tryz.prog 96 #[ptr s, .int .i64 o] w fun e w' => e = .returned .nilIface ∧ ∃ P' A' Ad' D', Sub P P' ∧ SgM s (G.cutK 0) A' ∧ DkM P' G.d D' Ad' ∧ SegOn D' (G.cutK 0) ∧ DkSame D D' ∧ D'.used ≤ D.used ∧
      (∀ s', s' ≠ G.nm → D'.look s' = D.look s') ∧ Hp w' P' (A' ++ (Ad' ++ F)) := by
  have e1 := un_of hO.I.arm hO.I.down
  refine (scut_empty_k C hO.I.ok hG (by rw [e1]; exact hO) hD h0 o ho hH).mono ?_
  rintro e w' ⟨rfl, P', A', Ad', D', x1, x2, x3, x4, x5, x6, x7, x8, x9⟩
  have e2 : D'.un = D' := un_of (by have := x8.arm; rw [hO.I.arm] at this; omega) x8.down
  rw [e2] at x4 x5
  rw [e1] at x5
  exact ⟨rfl, P', A', Ad', D', x1, x2, x3, x4, x5, x6, x7, x9⟩

set_option maxRecDepth 100000 in
set_option maxHeartbeats 2000000 in
theorem scut_empty_x (C : Ctx S E B P) (hok : D.ok = false) (hG : SgM s G A) (hO : SegOn D.un G) (hD : DkM P G.d D Ad) (h0 : G.l = []) (o : Int) (ho : o = G.base) (hH : Hp w P (A ++ (Ad ++ F))) :
    Calls Tryz.prog 96 #[ptr s, .int .i64 o] w fun e w' => e = .returned (crashE E) ∧ ∃ P' Ad', Sub P P' ∧ DkM P' G.d D.beg Ad' ∧ Hp w' P' (A ++ (Ad' ++ F)) := by
  obtain ⟨f, h1, h2, h3⟩ := hO.f
  have hr := hO.room
  have hu := hO.used
  have hnm := hO.nm
  have hW := hO.W
  have hz0 : sizes G.l = 0 := by rw [h0]; rfl
  obtain ⟨kz, hkz⟩ : ∃ z, sizes G.l = z := ⟨_, rfl⟩
  have hz1 : kz = 0 := by rw [← hkz, hz0]
  have hflen : f.b.length ≤ D.used := used_ge h1
  have hr' : D.room ≤ 4194304 := hr
  have hu' : D.used ≤ D.room := hu
  obtain ⟨P1, hs1, hH1, hm1⟩ := hH.lay (.cells #[.int .i64 o] 2)
  have hbx : Pers P1 (fun w' => w'.cell? ⟨w.heap.size, 0, none⟩ = some (.int .i64 o)) := fun w' hw => by
    have := hw.m _ _ hm1
    simp [World.cell?, this]
  have hix : idxB o G.l = -1 := by rw [h0]; rfl
  obtain ⟨en, hen⟩ : ∃ e, G.end_ = e := ⟨_, rfl⟩
  have hoe : o = en := by rw [← hen, ho, end_eq, h0]; rfl
  obtain ⟨lv0, Al0, hA0, hrow⟩ := id hG
  have hc4 : ∀ w P F, Hp w P (A ++ F) → w.cell? ⟨s, 4, none⟩ = some lv0 := fun w P F hH => hH.cell (b := s) (c := sgCells G lv0) (t := 104) (fr := (0, 0)) (by simp [hA0]) rfl
  have hbl : s < w.heap.size := World.block_lt_of_cell? _ _ (hc4 _ _ _ hH)
  rw [h0] at hrow
  have hrc : lv0 = .slice none 0 0 ∨ ∃ g c, lv0 = .slice (some ⟨g, 0, none⟩) 0 c := by
    rcases hrow.2 with ⟨h, -⟩ | ⟨g, cap, cur, h, -⟩
    · exact .inl h
    · exact .inr ⟨g, cap, h⟩
  have HKZ := Lib.hid hkz
  have HOK := Lib.hid hok
  have HW := Lib.hid hW
  have HBX := Lib.hid hbx
  have HM1 := Lib.hid hm1
  have HS1 := Lib.hid hs1
  have H1 := Lib.hid hH1
  have HEN := Lib.hid hen
  have HOE := Lib.hid hoe
  have HIX := Lib.hid hix
  rcases hrc with rfl | ⟨g, c, rfl⟩
  · have HC4 := Lib.hid hc4
    have c4 := hc4 _ _ _ hH1
    clear hok h1 h2 h3 hH hO hW hen hH1 hm1 hs1 hbx hkz h0 hoe hix hz0 hz1 ho hrow hA0 hc4
    go_enter Tryz.func96, Tryz.ntmps96
    go_wp2_with fail
    refine (idxfn_ok hG HW.out _ c4 w.heap.size o HM1.out H1.out).mono ?_
    rintro e w2 ⟨rfl, hH2⟩
    rw [HIX.out]
    have H2 := Lib.hid hH2
    clear hH2
    go_wp2_with fail
    refine wp_region_hp (by kernel_rfl) (by decide) _ _ H2.out (fun i _ v => match i with | 0 => v = .int .i64 (-1) | 1 => v = .bool true | 2 => v = .bool true | 3 => v = .int .i64 o | 4 => v = ptr s | 5 => v = .int .i64 en | 6 => v = .bool false | 7 => v = .bool false | _ => True) (by intro i P P' v _ h; exact h) ?_ ?_
    · intro i o ho u wq Pq hsq hHq hp K hK
      rcases i with _ | _ | _ | _ | _ | _ | _ | _ | i
      · cases ho
        simp only [frOf, Act.put, List.setIfInBounds_toArray, List.set_cons_zero, List.set_cons_succ, Nat.zero_add, Nat.reduceAdd] at hK ⊢
        go_simp
        exact hK _ wq Pq (Sub.refl _) hHq rfl
      · cases ho
        have h0 : u 0 = .int .i64 (-1) := hp ⟨0, .data⟩ (by simp) rfl
        simp only [frOf, Act.put, List.setIfInBounds_toArray, List.set_cons_zero, List.set_cons_succ, Nat.zero_add, Nat.reduceAdd] at hK ⊢
        simp only [h0] at hK ⊢
        go_simp
        exact hK _ wq Pq (Sub.refl _) hHq (by rfl)
      · cases ho
        have h1 : u 1 = .bool true := hp ⟨1, .data⟩ (by simp) rfl
        simp only [frOf, Act.put, List.setIfInBounds_toArray, List.set_cons_zero, List.set_cons_succ, Nat.zero_add, Nat.reduceAdd] at hK ⊢
        simp only [h1] at hK ⊢
        go_simp
        exact hK _ wq Pq (Sub.refl _) hHq rfl
      · cases ho
        have h2 : u 2 = .bool true := hp ⟨2, .guard⟩ (by simp) rfl
        simp only [frOf, Act.put, List.setIfInBounds_toArray, List.set_cons_zero, List.set_cons_succ, Nat.zero_add, Nat.reduceAdd] at hK ⊢
        simp only [h2] at hK ⊢
        have kb : wq.cell? ⟨w.heap.size, 0, none⟩ = some (.int .i64 o) := hHq.use (HBX.out.sub hsq)
        go_simp
        exact hK _ wq Pq (Sub.refl _) hHq rfl
      · cases ho
        have h2 : u 2 = .bool true := hp ⟨2, .guard⟩ (by simp) rfl
        simp only [frOf, Act.put, List.setIfInBounds_toArray, List.set_cons_zero, List.set_cons_succ, Nat.zero_add, Nat.reduceAdd] at hK ⊢
        simp only [h2] at hK ⊢
        go_simp
        exact hK _ wq Pq (Sub.refl _) hHq rfl
      · cases ho
        have h4 : u 4 = ptr s := hp ⟨4, .data⟩ (by simp) rfl
        have h2 : u 2 = .bool true := hp ⟨2, .guard⟩ (by simp) rfl
        simp only [frOf, Act.put, List.setIfInBounds_toArray, List.set_cons_zero, List.set_cons_succ, Nat.zero_add, Nat.reduceAdd] at hK ⊢
        simp only [h4, h2] at hK ⊢
        go_simp
        with_reducible refine (end_any hG HW.out hHq).mono ?_
        rintro e w3 ⟨rfl, hH3⟩
        rw [HEN.out]
        exact hK _ w3 Pq (Sub.refl _) hH3 rfl
      · cases ho
        have h3 : u 3 = .int .i64 o := hp ⟨3, .data⟩ (by simp) rfl
        have h5 : u 5 = .int .i64 en := hp ⟨5, .data⟩ (by simp) rfl
        have h2 : u 2 = .bool true := hp ⟨2, .guard⟩ (by simp) rfl
        simp only [frOf, Act.put, List.setIfInBounds_toArray, List.set_cons_zero, List.set_cons_succ, Nat.zero_add, Nat.reduceAdd] at hK ⊢
        simp only [h3, h5, h2] at hK ⊢
        go_simp
        exact hK _ wq Pq (Sub.refl _) hHq (by simp [HOE.out])
      · cases ho
        have h2 : u 2 = .bool true := hp ⟨2, .data⟩ (by simp) rfl
        have h6 : u 6 = .bool false := hp ⟨6, .data⟩ (by simp) rfl
        simp only [frOf, Act.put, List.setIfInBounds_toArray, List.set_cons_zero, List.set_cons_succ, Nat.zero_add, Nat.reduceAdd] at hK ⊢
        simp only [h2, h6] at hK ⊢
        go_simp
        exact hK _ wq Pq (Sub.refl _) hHq rfl
      · exact absurd ho (by simp)
    intro u wq Pq hsq hHq hR
    have h7 : u 7 = .bool false := hR 7 (by decide)
    simp only [frOf, List.setIfInBounds_toArray, List.set_cons_zero, List.set_cons_succ, Nat.zero_add, Nat.reduceAdd]
    simp only [h7]
    have H3 := Lib.hid (hHq.weaken hsq)
    clear hR hHq hsq h7
    have c4b := HC4.out _ _ _ H3.out
    go_wp2_with fail
    refine (ssize_any hG HW.out H3.out).mono ?_
    rintro e w4 ⟨rfl, hH4⟩
    rw [HKZ.out]
    have d4 := HC4.out _ _ _ hH4
    obtain ⟨lv4, k0, k1, -, -, -, -⟩ := hG.cells hH4
    have H4 := Lib.hid hH4
    clear hH4
    go_wp2_with fail
    go_region_held3 (fun w' => w'.cell? ⟨s, 0, none⟩ = some (ptr G.d) ∧ w'.cell? ⟨s, 1, none⟩ = some (str G.nm))
      (first
        | go_keep
        | exact ⟨k0, k1⟩)
      (first
        | (go_at_call 61
           with_reducible refine (dcut_x (C.sub HS1.out) (hD.sub HS1.out) (Hp.mid H4.out.drew) G.nm (by omega) HOK.out (kz : Int)).mono ?_
           rintro e w5 ⟨rfl, Ad5, hD5, hH5⟩
           have hH6 := Hp.mid hH5
           obtain ⟨lv5, k0, k1, -, -, -, -⟩ := hG.cells hH6))
    have H6 := Lib.hid hH6
    have HD5 := Lib.hid hD5
    clear hH5 hH6 hD5 d4
    go_wp2_with fail
    go_ret
    exact ⟨rfl, P1, Ad5, HS1.out, HD5.out, H6.out⟩
  · by_cases hc0 : c = 0
    · subst hc0
      have HC4 := Lib.hid hc4
      have c4 := hc4 _ _ _ hH1
      clear hok h1 h2 h3 hH hO hW hen hH1 hm1 hs1 hbx hkz h0 hoe hix hz0 hz1 ho hrow hA0 hc4
      go_enter Tryz.func96, Tryz.ntmps96
      go_wp2_with fail
      refine (idxfn_ok hG HW.out _ c4 w.heap.size o HM1.out H1.out).mono ?_
      rintro e w2 ⟨rfl, hH2⟩
      rw [HIX.out]
      have H2 := Lib.hid hH2
      clear hH2
      go_wp2_with fail
      refine wp_region_hp (by kernel_rfl) (by decide) _ _ H2.out (fun i _ v => match i with | 0 => v = .int .i64 (-1) | 1 => v = .bool true | 2 => v = .bool true | 3 => v = .int .i64 o | 4 => v = ptr s | 5 => v = .int .i64 en | 6 => v = .bool false | 7 => v = .bool false | _ => True) (by intro i P P' v _ h; exact h) ?_ ?_
      · intro i o ho u wq Pq hsq hHq hp K hK
        rcases i with _ | _ | _ | _ | _ | _ | _ | _ | i
        · cases ho
          simp only [frOf, Act.put, List.setIfInBounds_toArray, List.set_cons_zero, List.set_cons_succ, Nat.zero_add, Nat.reduceAdd] at hK ⊢
          go_simp
          exact hK _ wq Pq (Sub.refl _) hHq rfl
        · cases ho
          have h0 : u 0 = .int .i64 (-1) := hp ⟨0, .data⟩ (by simp) rfl
          simp only [frOf, Act.put, List.setIfInBounds_toArray, List.set_cons_zero, List.set_cons_succ, Nat.zero_add, Nat.reduceAdd] at hK ⊢
          simp only [h0] at hK ⊢
          go_simp
          exact hK _ wq Pq (Sub.refl _) hHq (by rfl)
        · cases ho
          have h1 : u 1 = .bool true := hp ⟨1, .data⟩ (by simp) rfl
          simp only [frOf, Act.put, List.setIfInBounds_toArray, List.set_cons_zero, List.set_cons_succ, Nat.zero_add, Nat.reduceAdd] at hK ⊢
          simp only [h1] at hK ⊢
          go_simp
          exact hK _ wq Pq (Sub.refl _) hHq rfl
        · cases ho
          have h2 : u 2 = .bool true := hp ⟨2, .guard⟩ (by simp) rfl
          simp only [frOf, Act.put, List.setIfInBounds_toArray, List.set_cons_zero, List.set_cons_succ, Nat.zero_add, Nat.reduceAdd] at hK ⊢
          simp only [h2] at hK ⊢
          have kb : wq.cell? ⟨w.heap.size, 0, none⟩ = some (.int .i64 o) := hHq.use (HBX.out.sub hsq)
          go_simp
          exact hK _ wq Pq (Sub.refl _) hHq rfl
        · cases ho
          have h2 : u 2 = .bool true := hp ⟨2, .guard⟩ (by simp) rfl
          simp only [frOf, Act.put, List.setIfInBounds_toArray, List.set_cons_zero, List.set_cons_succ, Nat.zero_add, Nat.reduceAdd] at hK ⊢
          simp only [h2] at hK ⊢
          go_simp
          exact hK _ wq Pq (Sub.refl _) hHq rfl
        · cases ho
          have h4 : u 4 = ptr s := hp ⟨4, .data⟩ (by simp) rfl
          have h2 : u 2 = .bool true := hp ⟨2, .guard⟩ (by simp) rfl
          simp only [frOf, Act.put, List.setIfInBounds_toArray, List.set_cons_zero, List.set_cons_succ, Nat.zero_add, Nat.reduceAdd] at hK ⊢
          simp only [h4, h2] at hK ⊢
          go_simp
          with_reducible refine (end_any hG HW.out hHq).mono ?_
          rintro e w3 ⟨rfl, hH3⟩
          rw [HEN.out]
          exact hK _ w3 Pq (Sub.refl _) hH3 rfl
        · cases ho
          have h3 : u 3 = .int .i64 o := hp ⟨3, .data⟩ (by simp) rfl
          have h5 : u 5 = .int .i64 en := hp ⟨5, .data⟩ (by simp) rfl
          have h2 : u 2 = .bool true := hp ⟨2, .guard⟩ (by simp) rfl
          simp only [frOf, Act.put, List.setIfInBounds_toArray, List.set_cons_zero, List.set_cons_succ, Nat.zero_add, Nat.reduceAdd] at hK ⊢
          simp only [h3, h5, h2] at hK ⊢
          go_simp
          exact hK _ wq Pq (Sub.refl _) hHq (by simp [HOE.out])
        · cases ho
          have h2 : u 2 = .bool true := hp ⟨2, .data⟩ (by simp) rfl
          have h6 : u 6 = .bool false := hp ⟨6, .data⟩ (by simp) rfl
          simp only [frOf, Act.put, List.setIfInBounds_toArray, List.set_cons_zero, List.set_cons_succ, Nat.zero_add, Nat.reduceAdd] at hK ⊢
          simp only [h2, h6] at hK ⊢
          go_simp
          exact hK _ wq Pq (Sub.refl _) hHq rfl
        · exact absurd ho (by simp)
      intro u wq Pq hsq hHq hR
      have h7 : u 7 = .bool false := hR 7 (by decide)
      simp only [frOf, List.setIfInBounds_toArray, List.set_cons_zero, List.set_cons_succ, Nat.zero_add, Nat.reduceAdd]
      simp only [h7]
      have H3 := Lib.hid (hHq.weaken hsq)
      clear hR hHq hsq h7
      have c4b := HC4.out _ _ _ H3.out
      go_wp2_with fail
      refine (ssize_any hG HW.out H3.out).mono ?_
      rintro e w4 ⟨rfl, hH4⟩
      rw [HKZ.out]
      have d4 := HC4.out _ _ _ hH4
      obtain ⟨lv4, k0, k1, -, -, -, -⟩ := hG.cells hH4
      have H4 := Lib.hid hH4
      clear hH4
      go_wp2_with fail
      go_region_held3 (fun w' => w'.cell? ⟨s, 0, none⟩ = some (ptr G.d) ∧ w'.cell? ⟨s, 1, none⟩ = some (str G.nm))
        (first
          | go_keep
          | exact ⟨k0, k1⟩)
        (first
          | (go_at_call 61
             with_reducible refine (dcut_x (C.sub HS1.out) (hD.sub HS1.out) (Hp.mid H4.out.drew) G.nm (by omega) HOK.out (kz : Int)).mono ?_
             rintro e w5 ⟨rfl, Ad5, hD5, hH5⟩
             have hH6 := Hp.mid hH5
             obtain ⟨lv5, k0, k1, -, -, -, -⟩ := hG.cells hH6))
      have H6 := Lib.hid hH6
      have HD5 := Lib.hid hD5
      clear hH5 hH6 hD5 d4
      go_wp2_with fail
      go_ret
      exact ⟨rfl, P1, Ad5, HS1.out, HD5.out, H6.out⟩
    · have HC4 := Lib.hid hc4
      have c4 := hc4 _ _ _ hH1
      clear hok h1 h2 h3 hH hO hW hen hH1 hm1 hs1 hbx hkz h0 hoe hix hz0 hz1 ho hrow hA0 hc4
      go_enter Tryz.func96, Tryz.ntmps96
      go_wp2_with fail
      refine (idxfn_ok hG HW.out _ c4 w.heap.size o HM1.out H1.out).mono ?_
      rintro e w2 ⟨rfl, hH2⟩
      rw [HIX.out]
      have H2 := Lib.hid hH2
      clear hH2
      go_wp2_with fail
      refine wp_region_hp (by kernel_rfl) (by decide) _ _ H2.out (fun i _ v => match i with | 0 => v = .int .i64 (-1) | 1 => v = .bool true | 2 => v = .bool true | 3 => v = .int .i64 o | 4 => v = ptr s | 5 => v = .int .i64 en | 6 => v = .bool false | 7 => v = .bool false | _ => True) (by intro i P P' v _ h; exact h) ?_ ?_
      · intro i o ho u wq Pq hsq hHq hp K hK
        rcases i with _ | _ | _ | _ | _ | _ | _ | _ | i
        · cases ho
          simp only [frOf, Act.put, List.setIfInBounds_toArray, List.set_cons_zero, List.set_cons_succ, Nat.zero_add, Nat.reduceAdd] at hK ⊢
          go_simp
          exact hK _ wq Pq (Sub.refl _) hHq rfl
        · cases ho
          have h0 : u 0 = .int .i64 (-1) := hp ⟨0, .data⟩ (by simp) rfl
          simp only [frOf, Act.put, List.setIfInBounds_toArray, List.set_cons_zero, List.set_cons_succ, Nat.zero_add, Nat.reduceAdd] at hK ⊢
          simp only [h0] at hK ⊢
          go_simp
          exact hK _ wq Pq (Sub.refl _) hHq (by rfl)
        · cases ho
          have h1 : u 1 = .bool true := hp ⟨1, .data⟩ (by simp) rfl
          simp only [frOf, Act.put, List.setIfInBounds_toArray, List.set_cons_zero, List.set_cons_succ, Nat.zero_add, Nat.reduceAdd] at hK ⊢
          simp only [h1] at hK ⊢
          go_simp
          exact hK _ wq Pq (Sub.refl _) hHq rfl
        · cases ho
          have h2 : u 2 = .bool true := hp ⟨2, .guard⟩ (by simp) rfl
          simp only [frOf, Act.put, List.setIfInBounds_toArray, List.set_cons_zero, List.set_cons_succ, Nat.zero_add, Nat.reduceAdd] at hK ⊢
          simp only [h2] at hK ⊢
          have kb : wq.cell? ⟨w.heap.size, 0, none⟩ = some (.int .i64 o) := hHq.use (HBX.out.sub hsq)
          go_simp
          exact hK _ wq Pq (Sub.refl _) hHq rfl
        · cases ho
          have h2 : u 2 = .bool true := hp ⟨2, .guard⟩ (by simp) rfl
          simp only [frOf, Act.put, List.setIfInBounds_toArray, List.set_cons_zero, List.set_cons_succ, Nat.zero_add, Nat.reduceAdd] at hK ⊢
          simp only [h2] at hK ⊢
          go_simp
          exact hK _ wq Pq (Sub.refl _) hHq rfl
        · cases ho
          have h4 : u 4 = ptr s := hp ⟨4, .data⟩ (by simp) rfl
          have h2 : u 2 = .bool true := hp ⟨2, .guard⟩ (by simp) rfl
          simp only [frOf, Act.put, List.setIfInBounds_toArray, List.set_cons_zero, List.set_cons_succ, Nat.zero_add, Nat.reduceAdd] at hK ⊢
          simp only [h4, h2] at hK ⊢
          go_simp
          with_reducible refine (end_any hG HW.out hHq).mono ?_
          rintro e w3 ⟨rfl, hH3⟩
          rw [HEN.out]
          exact hK _ w3 Pq (Sub.refl _) hH3 rfl
        · cases ho
          have h3 : u 3 = .int .i64 o := hp ⟨3, .data⟩ (by simp) rfl
          have h5 : u 5 = .int .i64 en := hp ⟨5, .data⟩ (by simp) rfl
          have h2 : u 2 = .bool true := hp ⟨2, .guard⟩ (by simp) rfl
          simp only [frOf, Act.put, List.setIfInBounds_toArray, List.set_cons_zero, List.set_cons_succ, Nat.zero_add, Nat.reduceAdd] at hK ⊢
          simp only [h3, h5, h2] at hK ⊢
          go_simp
          exact hK _ wq Pq (Sub.refl _) hHq (by simp [HOE.out])
        · cases ho
          have h2 : u 2 = .bool true := hp ⟨2, .data⟩ (by simp) rfl
          have h6 : u 6 = .bool false := hp ⟨6, .data⟩ (by simp) rfl
          simp only [frOf, Act.put, List.setIfInBounds_toArray, List.set_cons_zero, List.set_cons_succ, Nat.zero_add, Nat.reduceAdd] at hK ⊢
          simp only [h2, h6] at hK ⊢
          go_simp
          exact hK _ wq Pq (Sub.refl _) hHq rfl
        · exact absurd ho (by simp)
      intro u wq Pq hsq hHq hR
      have h7 : u 7 = .bool false := hR 7 (by decide)
      simp only [frOf, List.setIfInBounds_toArray, List.set_cons_zero, List.set_cons_succ, Nat.zero_add, Nat.reduceAdd]
      simp only [h7]
      have H3 := Lib.hid (hHq.weaken hsq)
      clear hR hHq hsq h7
      have c4b := HC4.out _ _ _ H3.out
      go_wp2_with fail
      refine (ssize_any hG HW.out H3.out).mono ?_
      rintro e w4 ⟨rfl, hH4⟩
      rw [HKZ.out]
      have d4 := HC4.out _ _ _ hH4
      obtain ⟨lv4, k0, k1, -, -, -, -⟩ := hG.cells hH4
      have H4 := Lib.hid hH4
      clear hH4
      go_wp2_with fail
      go_region_held3 (fun w' => w'.cell? ⟨s, 0, none⟩ = some (ptr G.d) ∧ w'.cell? ⟨s, 1, none⟩ = some (str G.nm))
        (first
          | go_keep
          | exact ⟨k0, k1⟩)
        (first
          | (go_at_call 61
             with_reducible refine (dcut_x (C.sub HS1.out) (hD.sub HS1.out) (Hp.mid H4.out.drew) G.nm (by omega) HOK.out (kz : Int)).mono ?_
             rintro e w5 ⟨rfl, Ad5, hD5, hH5⟩
             have hH6 := Hp.mid hH5
             obtain ⟨lv5, k0, k1, -, -, -, -⟩ := hG.cells hH6))
      have H6 := Lib.hid hH6
      have HD5 := Lib.hid hD5
      clear hH5 hH6 hD5 d4
      go_wp2_with fail
      go_ret
      exact ⟨rfl, P1, Ad5, HS1.out, HD5.out, H6.out⟩
end

end Go.Proofs.YtncjffkpkmjgkaaGreatDoor.Sg

/-! Kf -/
namespace Go.Proofs.YtncjffkpkmjgkaaGreatDoor.Sg
open Go.RowKit Er Go.Maps

def KS (b : Nat) (H1 H2 : Prop) : Prop := if b = 2 then H2 else H1
theorem KS.get {b : Nat} {H1 H2 : Prop} (hb : b ≠ 2) (h : KS b H1 H2) : H1 := by unfold KS at h; rwa [if_neg hb] at h
theorem KS.one {b : Nat} {H1 H2 : Prop} (hb : b ≠ 2) (h : H1) : KS b H1 H2 := by unfold KS; rwa [if_neg hb]
theorem KS.two {H1 H2 : Prop} (h : H2) : KS 2 H1 H2 := by unfold KS; rwa [if_pos rfl]
theorem KS.end_ {H1 H2 : Prop} (h : KS 2 H1 H2) : H2 := by unfold KS at h; rwa [if_pos rfl] at h

/-- A row that ends sooner. -/
theorem RowM.take {t : TypeId} {sz n c : Nat} {a : Option Addr} {xs : List Value} {A : Mm} (h : RowM t sz (.slice a n c) n xs A) {m : Nat} (hm : m ≤ n) (ha : m = 0 → ∃ x, a = some x) : RowM t sz (.slice a m c) m (xs.take (m * sz)) A := by
  obtain ⟨h1, h2⟩ := h
  have hle : m * sz ≤ n * sz := Nat.mul_le_mul hm (Nat.le_refl _)
  refine ⟨by rw [List.length_take, h1, Nat.min_eq_left hle], ?_⟩
  rcases h2 with ⟨hv, hn, hA⟩ | ⟨g, cap, cur, hv, k1, k2, k3, k4, k5⟩
  · simp only [Value.slice.injEq] at hv
    obtain ⟨rfl, -, -⟩ := hv
    obtain ⟨x, hx⟩ := ha (by omega)
    cases hx
  · simp only [Value.slice.injEq] at hv
    obtain ⟨rfl, -, rfl⟩ := hv
    exact .inr ⟨g, c, cur, rfl, by omega, k2, k3, by rw [← k4, List.take_take, Nat.min_eq_left hle], k5⟩

section
variable {S : List Nat} {E : Nat → Addr} {B : Nat} {P : Pm} {s : Nat} {G : Sg} {D : Dk} {A Ad F : Mm} {w : World}
/-- Cut where batches end. -/
theorem scut_j (C : Ctx S E B P) (hok : D.ok = true) (hG : SgM s G A) (hO : SegOn D.un G) (hD : DkM P G.d D Ad) (hch : Chain G.base 0 G.l) (j : Nat) (hj : j ≤ G.l.length) (hH : Hp w P (A ++ (Ad ++ F))) :
    Calls Tryz.prog 96 #[ptr s, .int .i64 (endOf G.base (G.l.take j))] w fun e w' => e = .returned .nilIface ∧ ∃ P' A' Ad' D', Sub P P' ∧ SgM s (G.cutK j) A' ∧ DkM P' G.d D' Ad' ∧ SegOn D'.un (G.cutK j) ∧ DkSame D.un D'.un ∧ D'.used ≤ D.used ∧
      (∀ s', s' ≠ G.nm → D'.look s' = D.look s') ∧ PowOn D D' ∧ Hp w' P' (A' ++ (Ad' ++ F)) := by
  have hr : ∀ x, x ∈ G.l → 1 ≤ x.r.length := fun x hx => (hO.ok x hx).n1
  by_cases h0 : G.l = []
  · have hj0 : j = 0 := by rw [h0] at hj; simpa using hj
    subst hj0
    exact scut_empty_k C hok hG hO hD h0 _ rfl hH
  · exact scut_k C hok hG hO hD j _ h0 (by rw [end_eq]; exact cut_want hch hr hj) hH
theorem scut_jx (C : Ctx S E B P) (hok : D.ok = false) (hG : SgM s G A) (hO : SegOn D.un G) (hD : DkM P G.d D Ad) (hch : Chain G.base 0 G.l) (j : Nat) (hj : j ≤ G.l.length) (hH : Hp w P (A ++ (Ad ++ F))) :
    Calls Tryz.prog 96 #[ptr s, .int .i64 (endOf G.base (G.l.take j))] w fun e w' => e = .returned (crashE E) ∧ ∃ P' Ad', Sub P P' ∧ DkM P' G.d D.beg Ad' ∧ Hp w' P' (A ++ (Ad' ++ F)) := by
  have hr : ∀ x, x ∈ G.l → 1 ≤ x.r.length := fun x hx => (hO.ok x hx).n1
  by_cases h0 : G.l = []
  · have hj0 : j = 0 := by rw [h0] at hj; simpa using hj
    subst hj0
    exact scut_empty_x C hok hG hO hD h0 _ rfl hH
  · exact scut_x C hok hG hO hD j _ h0 (by rw [end_eq]; exact cut_want hch hr hj) hH
end

section
variable {D D' : Dk} {H : Hl} {b0 : Int} {l : List Bt} {L0 : List (Nat × Sg)} {s : Nat} {G : Sg}
theorem HotOn.cutSeg (h : HotOn D H b0 l) (hL : H.L = L0 ++ [(s, G)]) (j : Nat) (hS : SegOn D' (G.cutK j)) (hsm : DkSame D D') (hu : D'.used ≤ D.used) (hlk : ∀ s', s' ≠ G.nm → D'.look s' = D.look s') :
    HotOn D' { H with L := L0 ++ [(s, G.cutK j)] } b0 ((L0.map (·.2.l)).flatten ++ G.l.take j) := by
  have hsp := (h.split (L2 := []) hL).2.2.2.2
  have hch := h.ch
  rw [hsp] at hch
  have e : (L0.map (·.2.l)).flatten ++ (G.l ++ (([] : List (Nat × Sg)).map (·.2.l)).flatten) = ((L0.map (·.2.l)).flatten ++ G.l.take j) ++ G.l.drop j := by
    rw [List.append_assoc, List.take_append_drop]; simp
  rw [e] at hch
  have hlkL := h.lk
  rw [hL, List.map_append] at hlkL
  refine h.turn hL (G.cutK j) rfl rfl rfl rfl hS hsm (by rw [hsm.room]; exact Nat.le_trans hu h.used) hlk _ (by simp [Sg.cutK]) ((chain_app _ _ _ _).1 hch).1 (by rw [List.map_append]; exact Lk.last hlkL rfl) ?_
  have hnd := h.nmND
  rw [hL] at hnd
  have hall := used_all D' (L0 ++ [(s, G.cutK j)]) D'.nm hS.I.nd (by rw [List.map_append] at hnd ⊢; exact hnd) (fun p hp => ?_)
  · unfold Dk.used
    simpa [Sg.cutK] using hall
  · have fin : ∀ f : Fl, D'.look p.2.nm = some f → f.b = flatB p.2.l → ∃ f b, nfind D'.nm p.2.nm = some b ∧ ffind D'.fl b = some f ∧ f.b.length = sizes p.2.l := fun f f1 f2 => by
      obtain ⟨k1, k2⟩ := look_some f1
      exact ⟨f, f.blk, k1, k2, by rw [f2, flatB_len]⟩
    rcases List.mem_append.1 hp with hp | hp
    · obtain ⟨f, f1, f2, -⟩ := (h.sg p (by rw [hL]; exact List.mem_append_left _ hp)).1.f
      exact fin f ((hlk _ (h.names hL p (.inl hp))).trans f1) f2
    · rw [List.mem_singleton.1 hp] at fin ⊢
      obtain ⟨f, f1, f2, -⟩ := hS.f
      exact fin f f1 f2
/-- The segment in which a cut falls. -/
theorem cut_seg (o : Int) : ∀ (L : List (Nat × Sg)), L ≠ [] → ∃ L1 s G L2, L = L1 ++ (s, G) :: L2 ∧ (L1 = [] ∨ (G.base : Int) < o) ∧ ∀ p, p ∈ L2 → o ≤ (p.2.base : Int) := by
  intro L
  obtain ⟨n, hn⟩ : ∃ n, L.length = n := ⟨_, rfl⟩
  induction n generalizing L with
  | zero => intro h; exact absurd (List.eq_nil_of_length_eq_zero hn) h
  | succ n ih =>
    intro _
    rcases snoc_cases L with rfl | ⟨L0, ⟨s, G⟩, rfl⟩
    · simp at hn
    · by_cases h1 : L0 = [] ∨ (G.base : Int) < o
      · exact ⟨L0, s, G, [], rfl, h1, by simp⟩
      · have h2 : L0 ≠ [] := fun e => h1 (.inl e)
        have h3 : o ≤ (G.base : Int) := by
          rcases Int.lt_or_le (G.base : Int) o with h | h
          · exact absurd (.inr h) h1
          · exact h
        obtain ⟨L1, s', G', L2, e, k1, k2⟩ := ih L0 (by simpa using hn) h2
        exact ⟨L1, s', G', L2 ++ [(s, G)], by rw [e]; simp, k1, fun p hp => by
          rcases List.mem_append.1 hp with hp | hp
          · exact k2 p hp
          · rw [List.mem_singleton.1 hp]; exact h3⟩
theorem HotOn.has_cut (h : HotOn D H b0 l) (hne : H.L ≠ []) (k : Nat) (hk : k ≤ l.length) : H.L.any (fun p => p.2.has (endOf b0 (l.take k))) = true := by
  obtain ⟨L1, s, G, L2, hL, h1, h2⟩ := cut_seg (endOf b0 (l.take k)) H.L hne
  obtain ⟨j, hj, e1, -⟩ := h.cut_at hL k hk h1 h2
  have hr : ∀ x, x ∈ G.l → 1 ≤ x.r.length := fun x hx => ((h.sg (s, G) (by rw [hL]; simp)).1.ok x hx).n1
  refine List.any_eq_true.2 ⟨(s, G), by rw [hL]; simp, ?_⟩
  show G.has _ = true
  rw [e1]
  unfold Sg.has
  rcases cut_want (h.chain hL) hr hj with ⟨y, y1, y2, -⟩ | ⟨-, y2, -⟩
  · have : G.l.any (fun x => x.b == endOf G.base (G.l.take j)) = true := List.any_eq_true.2 ⟨y, List.mem_of_getElem? y1, by simp [y2]⟩
    rw [this, Bool.or_true]
  · rw [y2, ← end_eq]; simp
end

section
variable {S : List Nat} {E : Nat → Addr} {B : Nat} {P : Pm} {h : Nat} {H : Hl} {D : Dk} {A Ad F : Mm} {w : World} {b0 : Int} {l : List Bt}
/-- The last segment is let go of. -/
theorem HlM.pop {L0 : List (Nat × Sg)} {s : Nat} {G : Sg} (hM : HlM h { H with L := L0 ++ [(s, G)] } A) (hne : L0 ≠ []) :
    ∃ g c Al As A1, A = (h, Obj.cells (hlCells H (.slice (some ⟨g, 0, none⟩) (L0.length + 1) c)) 119 (0, 0)) :: (Al ++ (As ++ A1)) ∧ L0.length + 1 ≤ c ∧ HlM h { H with L := L0 } ((h, Obj.cells (hlCells H (.slice (some ⟨g, 0, none⟩) L0.length c)) 119 (0, 0)) :: (Al ++ As)) := by
  obtain ⟨lv, Al, As, rfl, hr, hs⟩ := hM
  obtain ⟨As0, A1, rfl, hs0, -⟩ := SgsM.app hs
  have hlen : (Hl.L { H with L := L0 ++ [(s, G)] }).length = L0.length + 1 := by simp
  rw [hlen] at hr
  have h0 : 0 < L0.length := List.length_pos_iff.2 hne
  rcases hr.2 with ⟨-, hn, -⟩ | ⟨g, cap, cur, hv, k1, -⟩
  · omega
  · subst hv
    refine ⟨g, cap, Al, As0, A1, rfl, k1, .slice (some ⟨g, 0, none⟩) L0.length cap, Al, As0, rfl, ?_, hs0⟩
    have ht := hr.take (m := L0.length) (by omega) (fun h => by omega)
    have e : (ptrsL (Hl.L { H with L := L0 ++ [(s, G)] })).take (L0.length * 1) = ptrsL L0 := by
      have e1 : ptrsL (L0 ++ [(s, G)]) = ptrsL L0 ++ ptrsL [(s, G)] := by simp [ptrsL]
      have e2 : (ptrsL L0).length = L0.length := by simp [ptrsL]
      show (ptrsL (L0 ++ [(s, G)])).take _ = _
      rw [e1, Nat.mul_one, ← e2, List.take_left]
    rw [e] at ht
    exact ht

/-- What CutEnd leaves where it is done. -/
def CutDone (P : Pm) (h : Nat) (H : Hl) (D : Dk) (b0 : Int) (l : List Bt) (k : Nat) (F : Mm) (w' : World) : Prop :=
  ∃ P' A' Ad' D' H' L1 s G L2 j, Sub P P' ∧ HlM h H' A' ∧ DkM P' H.d D' Ad' ∧ HotOn D'.un H' b0 (l.take k) ∧ H.L = L1 ++ (s, G) :: L2 ∧ H' = { H with L := L1 ++ [(s, G.cutK j)] } ∧ D'.used ≤ D.used ∧ D'.room = D.room ∧ D'.n = D.n ∧ PowOn D D' ∧ Hp w' P' (A' ++ (Ad' ++ F))
/-- .. where the power went. -/
def CutGone (P : Pm) (h : Nat) (H : Hl) (D : Dk) (o : Int) (F : Mm) (w' : World) : Prop :=
  ∃ P' A' Ad' D' L1 L2, Sub P P' ∧ HlM h { H with L := L1 } A' ∧ DkM P' H.d D' Ad' ∧ PowOff D D' ∧ H.L = L1 ++ L2 ∧ L1 ≠ [] ∧ (∀ p, p ∈ L2 → o ≤ (p.2.base : Int)) ∧ (D'.un = D.un.rems (revNm L2) ∨ D'.un = (D.un.rems (revNm L2)).sdir) ∧ Hp w' P' (A' ++ (Ad' ++ F))

/-- What holds at the head of CutEnd's loop. -/
def CeRel (P1 : Pm) (h : Nat) (H : Hl) (D : Dk) (o : Int) (F : Mm) (m : Nat) (vr : Value) (wr : World) : Prop :=
  ∃ (L1 L2 : List (Nat × Sg)) (Ah Ad : Mm) (D1 : Dk) (rb : Bool), H.L = L1 ++ L2 ∧ L1.length = m ∧ L1 ≠ [] ∧ (∀ p, p ∈ L2 → o ≤ (p.2.base : Int)) ∧ vr = .bool rb ∧ (rb = true ↔ L2 ≠ []) ∧ HlM h { H with L := L1 } Ah ∧ DkM P1 H.d D1 Ad ∧
    D1.un = D.un.rems (revNm L2) ∧ D1.arm ≤ D.arm ∧ D1.down = D.down ∧ Hp wr P1 (Ah ++ (Ad ++ F))

set_option maxRecDepth 100000 in
set_option maxHeartbeats 16000000 in
theorem hcutend_any (C : Ctx S E B P) (hM : HlM h H A) (hO : HotOn D.un H b0 l) (hD : DkM P H.d D Ad) (hdn : D.down = false) (hne : H.L ≠ []) (k : Nat) (hk : k ≤ l.length) (o : Int) (ho : endOf b0 (l.take k) = o) (hH : Hp w P (A ++ (Ad ++ F))) :
    Calls Tryz.prog 41 #[ptr h, .int .i64 o] w fun e w' => (e = .returned .nilIface ∧ CutDone P h H D b0 l k F w') ∨ (e = .returned (crashE E) ∧ CutGone P h H D o F w') := by
  obtain ⟨P1, hs1, hH1, hm1⟩ := hH.lay (.cells #[.int .i64 o] 2)
  have hbx : Pers P1 (fun w' => w'.cell? ⟨w.heap.size, 0, none⟩ = some (.int .i64 o)) := fun w' hw => by
    have := hw.m _ _ hm1
    simp [World.cell?, this]
  obtain ⟨a, c, hc, hat⟩ := hM.at_
  obtain ⟨-, -, -, c3, hhl, -, -⟩ := hat _ _ _ hH1
  have hhw : h < w.heap.size := (hat _ _ _ hH).2.2.2.2.1
  have hany := hO.has_cut hne k hk
  rw [ho] at hany
  have hW := hO.W
  have hbnd := hO.small.2
  obtain ⟨n, hn⟩ : ∃ n, H.L.length = n := ⟨_, rfl⟩
  have hcs := contseg_ok hM hW a c c3 w.heap.size o hm1 hH1
  rw [hn] at hcs c3 hbnd
  have HCS := Lib.hid hcs
  have HBX := Lib.hid hbx
  have HS1 := Lib.hid hs1
  have HAN := Lib.hid hany
  have HM := Lib.hid hM
  have HO := Lib.hid hO
  have HNE := Lib.hid hne
  have HN := Lib.hid hn
  have HOO := Lib.hid ho
  have HK := Lib.hid hk
  clear hH hH1 hbx hm1 hs1 hany hat hcs hM hO hne hn ho hk hW hhl
  go_enter Tryz.func41, Tryz.ntmps41
  go_wp2_with fail
  refine HCS.out.mono ?_
  rintro e w2 ⟨rfl, P2, hs2, hH2⟩
  rw [HAN.out]
  have H2 := Lib.hid hH2
  have HS2 := Lib.hid (HS1.out.trans hs2)
  have HBX2 := Lib.hid (HBX.out.sub hs2)
  clear hH2 hs2 c3
  go_wp2_with fail
  go_loopg [5, 6] n (fun m vr v6 wr => CeRel P2 h H D o F m vr wr)
  case atStart => exact ⟨H.L, [], A, Ad, D, false, by simp, HN.out, HNE.out, by simp, rfl, by simp, HM.out, hD.sub HS2.out, rfl, Nat.le_refl _, rfl, H2.out⟩
  case round =>
    obtain ⟨L1, L2, Ah, Ad1, D1, rb, hL, hLn, hL1, hbs, rfl, hrb, hM1, hD1, hun, harm, hdw, hH3⟩ := hrel
    obtain ⟨L0, s, G, rfl⟩ : ∃ L0 s G, L1 = L0 ++ [(s, G)] := by
      rcases lastHl L1 with h | h
      · exact absurd h hL1
      · exact h
    obtain ⟨m0, hm0⟩ : ∃ m0, L0.length = m0 := ⟨_, rfl⟩
    have hgk : gk = m0 + 1 := by rw [← hLn, List.length_append, hm0]; rfl
    have hmn : m0 + 1 ≤ n := by
      have h1 := congrArg List.length hL
      rw [HN.out, List.length_append, List.length_append, hm0] at h1
      simp at h1; omega
    have hrem := HO.out.remd hL
    rw [← hun] at hrem
    have hgm : (s, G) ∈ H.L := by rw [hL]; simp
    obtain ⟨g1, g2, g3, g4⟩ := HO.out.sg _ hgm
    dsimp only at g1 g2 g3 g4
    have hSG : SegOn D1.un G := by
      refine g1.keep hrem.I (by rw [hrem.room]; exact HO.out.room) (by rw [hrem.room]; exact Nat.le_trans hrem.used HO.out.used) ?_
      rw [hun]
      exact HO.out.remd_look hL (p := (s, G)) (by simp)
    have hdn1 : D1.down = false := hdw.trans hdn
    have hDG1 : DkM P2 G.d D1 Ad1 := by rw [g2]; exact hD1
    obtain ⟨a1, c1, hc1, hat1⟩ := hM1.at_
    have hlen1 : (Hl.L { H with L := L0 ++ [(s, G)] }).length = m0 + 1 := by rw [← hm0]; simp
    rw [hlen1] at hc1
    have hat3 : ∀ w' P' F', Hp w' P' (Ah ++ F') → w'.cell? ⟨h, 3, none⟩ = some (.slice a1 (m0 + 1) c1) ∧ w'.cell? ⟨h, 0, none⟩ = some (ptr H.d) := fun w' P' F' hx => by
      obtain ⟨z0, -, -, z3, -⟩ := hat1 w' P' F' hx
      rw [hlen1] at z3
      exact ⟨z3, z0⟩
    obtain ⟨A1, R, hG1, hp, hput⟩ := hM1.focus (l1 := L0) (l2 := []) (s := s) (G := G) rfl
    obtain ⟨y3, -⟩ := hat3 _ _ _ hH3
    have kb := hH3.use HBX2.out
    have hl0n : L0.length ≤ 1000000 := by rw [hm0]; omega
    have H3 := Lib.hid hH3
    have HLE := Lib.hid hL
    have HBS := Lib.hid hbs
    have HRB := Lib.hid hrb
    have HM1 := Lib.hid hM1
    have HD1 := Lib.hid hD1
    have HDG := Lib.hid hDG1
    have HUN := Lib.hid hun
    have HARM := Lib.hid harm
    have HDN := Lib.hid hdn1
    have HDW := Lib.hid hdw
    have HREM := Lib.hid hrem
    have HSG := Lib.hid hSG
    have HAT := Lib.hid hat3
    have HPP := Lib.hid hp
    have HPUT := Lib.hid hput
    have HM0 := Lib.hid hm0
    have HGD := Lib.hid g2
    have HNM := Lib.hid g1.nm
    have hsub : ∀ X : Mm, List.Perm (Ah ++ (X ++ F)) (A1 ++ (X ++ (R ++ F))) := fun X => (hp (X ++ F)).trans (List.Perm.append_left A1 (perm_mid R X F))
    have HSUB := Lib.hid hsub
    have hcase : m0 = 0 ∨ (0 < m0 ∧ ¬ o ≤ (G.base : Int)) ∨ (0 < m0 ∧ o ≤ (G.base : Int)) := by omega
    clear hH3 hL hbs hrb hM1 hD1 hun harm hdw hdn1 hrem hSG hat1 hat3 hp hput hm0 g1 g2 g3 g4 hgm hL1 hLn hlen1 hDG1 hsub
    subst hgk
    rcases hcase with hm | ⟨hm, hgo⟩ | ⟨hm, hgo⟩
    case' inl =>
      have HLOW : Hid (L0 = [] ∨ (G.base : Int) < o) := .inl (List.eq_nil_of_length_eq_zero (by rw [HM0.out]; exact hm))
      subst hm
      go_wp2_with fail
      go_quiet (fail)
      have hH4 := H3.out.drewN nq
      generalize wr.drewN nq = w4 at hH4 ⊢
      have H4 := Lib.hid hH4
      clear hH4 y3 kb
    case' inr.inl =>
      have HLOW : Hid (L0 = [] ∨ (G.base : Int) < o) := .inr (by omega)
      have i1 : (1 : Int) < ((m0 + 1 : Nat) : Int) := by omega
      have i2 : (1 : Int) < (m0 : Int) + 1 := by omega
      go_wp2_with fail
      go_region_held3 (fun w' => w'.cell? ⟨h, 3, none⟩ = some (.slice a1 (m0 + 1) c1) ∧ w'.cell? ⟨w.heap.size, 0, none⟩ = some (.int .i64 o))
        (first
          | go_keep
          | exact ⟨y3, kb⟩)
        (first
          | (go_at_call 64
             with_reducible refine (hlast_ok HM1.out rfl hl0n H3.out.drew).mono ?_
             rintro e w4 ⟨rfl, hHa⟩
             obtain ⟨y3, -⟩ := HAT.out _ _ _ hHa
             have kb := hHa.use HBX2.out)
          | (go_at_call 66
             with_reducible refine (sbase_any hG1 (hHa.perm (HPP.out _))).mono ?_
             rintro e w5 ⟨rfl, rfl⟩))
      have H4 := Lib.hid hHa
      clear hHa y3 kb
    case' inr.inr =>
      have i1 : (1 : Int) < ((m0 + 1 : Nat) : Int) := by omega
      have i2 : (1 : Int) < (m0 : Int) + 1 := by omega
      go_wp2_with fail
      go_region_held3 (fun w' => w'.cell? ⟨h, 3, none⟩ = some (.slice a1 (m0 + 1) c1) ∧ w'.cell? ⟨w.heap.size, 0, none⟩ = some (.int .i64 o))
        (first
          | go_keep
          | exact ⟨y3, kb⟩)
        (first
          | (go_at_call 64
             with_reducible refine (hlast_ok HM1.out rfl hl0n H3.out.drew).mono ?_
             rintro e w4 ⟨rfl, hHa⟩
             obtain ⟨y3, -⟩ := HAT.out _ _ _ hHa
             have kb := hHa.use HBX2.out)
          | (go_at_call 66
             with_reducible refine (sbase_any hG1 (hHa.perm (HPP.out _))).mono ?_
             rintro e w5 ⟨rfl, rfl⟩))
      have H4 := Lib.hid hHa
      clear hHa y3 kb
      go_wp2_with fail
      refine (hlast_ok HM1.out rfl hl0n H4.out).mono ?_
      rintro e w5 ⟨rfl, hH5⟩
      have H5 := Lib.hid (hH5.perm (HSUB.out Ad1))
      clear hH5
      go_wp2_with fail
      cases hok : D1.ok with
      | false =>
        refine (sremove_x (C.sub HS2.out) hok hG1 HNM.out HDG.out H5.out).mono ?_
        rintro e w6 ⟨rfl, Ad6, hD6, hH6⟩
        have H6 := Lib.hid (hH6.perm (HSUB.out Ad6).symm)
        have HD6 := Lib.hid hD6
        have HPO := Lib.hid (beg_off hok)
        clear hH6 hD6 hok
        go_wp2_with fail
        go_ret
        refine .inr ⟨rfl, P2, Ah, Ad6, D1.beg, L0 ++ [(s, G)], L2, HS2.out, HM1.out, by rw [← HGD.out]; exact HD6.out, ⟨HPO.out.down, fun hh => HPO.out.was ⟨by have := HARM.out; omega, by rw [HDW.out]; exact hh.2⟩⟩, HLE.out, by simp, HBS.out, .inl (by rw [beg_un]; exact HUN.out), H6.out⟩
      | true =>
        have hlen : D1.nm.length < 1000000 ∧ D1.ch.length ≤ 1000000 := by
          have h1 : D1.nm.length = (L0 ++ [(s, G)]).length := by
            have := HO.out.remd_len HLE.out
            rw [← HUN.out] at this; exact this
          have h2 : D1.ch = D.un.ch ++ (revNm L2).map fun s => ⟨[], s, none⟩ := HREM.out.ch
          have h3 := HO.out.c0
          have h4 := congrArg List.length HLE.out
          rw [HN.out] at h4
          rw [h1, h2]
          have h5 : (revNm L2).length = L2.length := by simp [revNm]
          simp only [List.length_append, List.length_map, List.length_singleton] at h4 ⊢
          rw [h5]
          omega
        refine (sremove_k (C.sub HS2.out) hok hG1 HSG.out HDG.out hlen.1 hlen.2 H5.out).mono ?_
        rintro e w6 ⟨rfl, Ad6, hD6, hH6⟩
        have hH7 := hH6.perm (HSUB.out Ad6).symm
        have hL0ne : L0 ≠ [] := List.length_pos_iff.1 (by rw [HM0.out]; exact hm)
        obtain ⟨g, cg, Al, As, A1', hAh, hcg, hMp⟩ := HM1.out.pop hL0ne
        rw [HM0.out] at hAh hcg hMp
        have hy3 := (HAT.out _ _ _ hH7).1
        rw [hAh] at hH7
        have hx3 := hH7.cell (b := h) (c := hlCells H (.slice (some ⟨g, 0, none⟩) (m0 + 1) cg)) (t := 119) (fr := (0, 0)) (by simp) (i := 3) rfl
        have H7 : Hid (Hp w6 P2 ((h, Obj.cells (hlCells H (.slice (some ⟨g, 0, none⟩) (m0 + 1) cg)) 119 (0, 0)) :: ((Al ++ (As ++ A1')) ++ (Ad6 ++ F)))) := hH7
        have HMP := Lib.hid hMp
        have HD6 := Lib.hid hD6
        have HON := Lib.hid (remove_on hok G.nm)
        have HUN6 : Hid ((D1.remove G.nm).un = D.un.rems (revNm ((s, G) :: L2))) := by
          show _ = _
          rw [remove_un, HUN.out, revNm_cons, rems_snoc]
        have w1 : IntKind.i64.wrap (((m0 + 1 : Nat) : Int) - 1) = (m0 : Int) := by rw [show ((m0 + 1 : Nat) : Int) - 1 = (m0 : Int) from by omega]; exact IntWalk.i64_in _ (by omega)
        have w2' : IntKind.i64.wrap ((m0 : Int) + 1 - 1) = (m0 : Int) := by rw [show (m0 : Int) + 1 - 1 = (m0 : Int) from by omega]; exact IntWalk.i64_in _ (by omega)
        have HW0 : Hid (IntKind.i64.wrap (m0 : Int) = (m0 : Int)) := IntWalk.i64_in _ (by omega)
        have j1 : (0 : Int) ≤ (m0 : Int) := by omega
        have j2 : (m0 : Int) ≤ (cg : Int) := by omega
        clear hH6 hH7 hD6 hok hlen hL0ne hAh hMp hx3 hy3
        go_wp2_with fail
        refine wp_region_ph (by kernel_rfl) (by decide) 11 14 (by kernel_rfl) ⟨by decide, by decide⟩ (by decide) _ (fun b P w3 _ => KS b (Hp w3 P ((h, Obj.cells (hlCells H (.slice (some ⟨g, 0, none⟩) (m0 + 1) cg)) 119 (0, 0)) :: ((Al ++ (As ++ A1')) ++ (Ad6 ++ F)))) (Hp w3 P ((h, Obj.cells (hlCells H (.slice (some ⟨g, 0, none⟩) m0 cg)) 119 (0, 0)) :: ((Al ++ (As ++ A1')) ++ (Ad6 ++ F))))) (fun v => KS.one (by decide) H7.out.drew) (fun i P v => match i with | 0 => v = ptr h | 1 => v = ptr h | 2 => v = ptr h | 3 => v = .pointer (some ⟨h, 3, none⟩) | 4 => v = .slice (some ⟨g, 0, none⟩) (m0 + 1) cg | 5 => v = ptr h | 6 => v = ptr h | 7 => v = .pointer (some ⟨h, 3, none⟩) | 8 => v = .slice (some ⟨g, 0, none⟩) (m0 + 1) cg | 9 => v = .int .i64 ((m0 + 1 : Nat) : Int) | 10 => v = .int .i64 (m0 : Int) | 11 => v = .slice (some ⟨g, 0, none⟩) m0 cg | 12 => v = ptr h | 13 => v = .pointer (some ⟨h, 3, none⟩) | 14 => True | _ => True) (by intro i P P' v hs h; exact h) ?_ ?_
        · intro i o ho b u w3 Q2 hsq hJ hp q1 q2 q3 q4 K hK
          rcases i with _ | _ | _ | _ | _ | _ | _ | _ | _ | _ | _ | _ | _ | _ | _ | i
          · cases ho
            simp only [frOf, Act.put, List.setIfInBounds_toArray, List.set_cons_zero, List.set_cons_succ, Nat.zero_add, Nat.reduceAdd] at hK ⊢
            go_simp
            exact hK _ w3 Q2 (Sub.refl _) hJ rfl
          · cases ho
            simp only [frOf, Act.put, List.setIfInBounds_toArray, List.set_cons_zero, List.set_cons_succ, Nat.zero_add, Nat.reduceAdd] at hK ⊢
            go_simp
            exact hK _ w3 Q2 (Sub.refl _) hJ rfl
          · cases ho
            have h1 : u 1 = ptr h := hp ⟨1, .data⟩ (by simp) rfl
            simp only [frOf, Act.put, List.setIfInBounds_toArray, List.set_cons_zero, List.set_cons_succ, Nat.zero_add, Nat.reduceAdd] at hK ⊢
            simp only [h1] at hK ⊢
            go_simp
            exact hK _ w3 Q2 (Sub.refl _) hJ rfl
          · cases ho
            have h2 : u 2 = ptr h := hp ⟨2, .data⟩ (by simp) rfl
            simp only [frOf, Act.put, List.setIfInBounds_toArray, List.set_cons_zero, List.set_cons_succ, Nat.zero_add, Nat.reduceAdd] at hK ⊢
            simp only [h2] at hK ⊢
            go_simp
            exact hK _ w3 Q2 (Sub.refl _) hJ rfl
          · cases ho
            have h3 : u 3 = .pointer (some ⟨h, 3, none⟩) := hp ⟨3, .data⟩ (by simp) rfl
            simp only [frOf, Act.put, List.setIfInBounds_toArray, List.set_cons_zero, List.set_cons_succ, Nat.zero_add, Nat.reduceAdd] at hK ⊢
            simp only [h3] at hK ⊢
            have hb2 : b ≠ 2 := fun e => nomatch ((q2 e).1.symm.trans (by kernel_rfl : _ = true))
            have hH3 := KS.get hb2 hJ
            have kc := (@Hp.cell _ _ _ hH3 h _ _ (0, 0) List.mem_cons_self) (i := 3) rfl
            go_simp
            exact hK _ w3 Q2 (Sub.refl _) hJ rfl
          · cases ho
            simp only [frOf, Act.put, List.setIfInBounds_toArray, List.set_cons_zero, List.set_cons_succ, Nat.zero_add, Nat.reduceAdd] at hK ⊢
            go_simp
            exact hK _ w3 Q2 (Sub.refl _) hJ rfl
          · cases ho
            have h5 : u 5 = ptr h := hp ⟨5, .data⟩ (by simp) rfl
            simp only [frOf, Act.put, List.setIfInBounds_toArray, List.set_cons_zero, List.set_cons_succ, Nat.zero_add, Nat.reduceAdd] at hK ⊢
            simp only [h5] at hK ⊢
            go_simp
            exact hK _ w3 Q2 (Sub.refl _) hJ rfl
          · cases ho
            have h6 : u 6 = ptr h := hp ⟨6, .data⟩ (by simp) rfl
            simp only [frOf, Act.put, List.setIfInBounds_toArray, List.set_cons_zero, List.set_cons_succ, Nat.zero_add, Nat.reduceAdd] at hK ⊢
            simp only [h6] at hK ⊢
            go_simp
            exact hK _ w3 Q2 (Sub.refl _) hJ rfl
          · cases ho
            have h7 : u 7 = .pointer (some ⟨h, 3, none⟩) := hp ⟨7, .data⟩ (by simp) rfl
            simp only [frOf, Act.put, List.setIfInBounds_toArray, List.set_cons_zero, List.set_cons_succ, Nat.zero_add, Nat.reduceAdd] at hK ⊢
            simp only [h7] at hK ⊢
            have hb2 : b ≠ 2 := fun e => nomatch ((q2 e).1.symm.trans (by kernel_rfl : _ = true))
            have hH3 := KS.get hb2 hJ
            have kc := (@Hp.cell _ _ _ hH3 h _ _ (0, 0) List.mem_cons_self) (i := 3) rfl
            go_simp
            exact hK _ w3 Q2 (Sub.refl _) hJ rfl
          · cases ho
            have h8 : u 8 = .slice (some ⟨g, 0, none⟩) (m0 + 1) cg := hp ⟨8, .data⟩ (by simp) rfl
            simp only [frOf, Act.put, List.setIfInBounds_toArray, List.set_cons_zero, List.set_cons_succ, Nat.zero_add, Nat.reduceAdd] at hK ⊢
            simp only [h8] at hK ⊢
            go_simp
            exact hK _ w3 Q2 (Sub.refl _) hJ rfl
          · cases ho
            have h9 : u 9 = .int .i64 ((m0 + 1 : Nat) : Int) := hp ⟨9, .data⟩ (by simp) rfl
            simp only [frOf, Act.put, List.setIfInBounds_toArray, List.set_cons_zero, List.set_cons_succ, Nat.zero_add, Nat.reduceAdd] at hK ⊢
            simp only [h9] at hK ⊢
            go_simp
            exact hK _ w3 Q2 (Sub.refl _) hJ (by rw [HW0.out])
          · cases ho
            have h4 : u 4 = .slice (some ⟨g, 0, none⟩) (m0 + 1) cg := hp ⟨4, .data⟩ (by simp) rfl
            have h10 : u 10 = .int .i64 (m0 : Int) := hp ⟨10, .data⟩ (by simp) rfl
            simp only [frOf, Act.put, List.setIfInBounds_toArray, List.set_cons_zero, List.set_cons_succ, Nat.zero_add, Nat.reduceAdd] at hK ⊢
            simp only [h4, h10] at hK ⊢
            have hb2 : b ≠ 2 := fun e => nomatch ((q2 e).1.symm.trans (by kernel_rfl : _ = true))
            go_simp
            exact hK _ w3 Q2 (Sub.refl _) (KS.one (b := 1) (by decide) (KS.get hb2 hJ)) rfl
          · cases ho
            have h0 : u 0 = ptr h := hp ⟨0, .data⟩ (by simp) rfl
            simp only [frOf, Act.put, List.setIfInBounds_toArray, List.set_cons_zero, List.set_cons_succ, Nat.zero_add, Nat.reduceAdd] at hK ⊢
            simp only [h0] at hK ⊢
            go_simp
            exact hK _ w3 Q2 (Sub.refl _) hJ rfl
          · cases ho
            have h12 : u 12 = ptr h := hp ⟨12, .data⟩ (by simp) rfl
            simp only [frOf, Act.put, List.setIfInBounds_toArray, List.set_cons_zero, List.set_cons_succ, Nat.zero_add, Nat.reduceAdd] at hK ⊢
            simp only [h12] at hK ⊢
            go_simp
            exact hK _ w3 Q2 (Sub.refl _) hJ rfl
          · cases ho
            have h11 : u 11 = .slice (some ⟨g, 0, none⟩) m0 cg := hp ⟨11, .data⟩ (by simp) rfl
            have h13 : u 13 = .pointer (some ⟨h, 3, none⟩) := hp ⟨13, .data⟩ (by simp) rfl
            simp only [frOf, Act.put, List.setIfInBounds_toArray, List.set_cons_zero, List.set_cons_succ, Nat.zero_add, Nat.reduceAdd] at hK ⊢
            simp only [h11, h13] at hK ⊢
            have hb2 : b ≠ 2 := fun e => (q2 e).2 rfl
            have hH3 := KS.get hb2 hJ
            have f3 := @Hp.frozen _ _ _ hH3 h _ _ List.mem_cons_self 3
            have kc := (@Hp.cell _ _ _ hH3 h _ _ (0, 0) List.mem_cons_self) (i := 3) rfl
            go_simp
            exact hK undef _ Q2 (Sub.refl _) (KS.two (hH3.set 3 (.slice (some ⟨g, 0, none⟩) m0 cg))) trivial
          · exact absurd ho (by simp)
        intro u w3 Q2 hsq hJ hR
        have H8 := Lib.hid ((KS.end_ hJ).weaken hsq)
        simp only [frOf, List.setIfInBounds_toArray, List.set_cons_zero, List.set_cons_succ, Nat.zero_add, Nat.reduceAdd]
        clear hR hJ hsq
        go_wp2_with fail
        go_roundg m0
        case measure => omega
        case rel =>
          refine ⟨L0, (s, G) :: L2, (h, Obj.cells (hlCells H (.slice (some ⟨g, 0, none⟩) m0 cg)) 119 (0, 0)) :: (Al ++ As), Ad6, D1.remove G.nm, true, by rw [HLE.out]; simp, HM0.out, List.length_pos_iff.1 (by rw [HM0.out]; exact hm), fun p hp => ?_, rfl, by simp, HMP.out, by rw [← HGD.out]; exact HD6.out, HUN6.out, Nat.le_trans HON.out.arm HARM.out, HON.out.down.trans hdn.symm, ?_⟩
          · rcases List.mem_cons.1 hp with rfl | hp
            · exact hgo
            · exact HBS.out p hp
          · have h1 := Hp.mid (A := (h, Obj.cells (hlCells H (.slice (some ⟨g, 0, none⟩) m0 cg)) 119 (0, 0)) :: (Al ++ As)) (B := A1') (C := Ad6 ++ F) (by simpa [List.append_assoc] using H8.out)
            simpa [List.append_assoc] using h1.drop
    all_goals
      have hLE' : H.L = L0 ++ (s, G) :: L2 := by rw [HLE.out]; simp
      obtain ⟨j, hj, hoj, htk⟩ := HO.out.cut_at hLE' k HK.out (by rw [HOO.out]; exact HLOW.out) (fun p hp => by rw [HOO.out]; exact HBS.out p hp)
      rw [HOO.out] at hoj
      have hchG := HO.out.chain hLE'
      obtain ⟨y3, y0⟩ := HAT.out _ _ _ H4.out
      have HJ := Lib.hid hj
      have HOJ := Lib.hid hoj
      have HTK := Lib.hid htk
      have HCG := Lib.hid hchG
      clear hLE' hj hoj htk hchG
      cases rb
      case' false =>
        have hL2 : L2 = [] := by
          by_cases h : L2 = []
          · exact h
          · exact absurd (HRB.out.2 h) (by decide)
        have hpack : HotOn D1.un { H with L := L0 ++ [(s, G)] } b0 (((L0 ++ [(s, G)]).map (·.2.l)).flatten) ∧ D1.used ≤ D.used ∧ D1.room = D.room ∧ D1.n = D.n ∧ D1.down = false ∧ D1.arm ≤ D.arm ∧ (D1.un = D.un.rems (revNm L2) ∨ D1.un = (D.un.rems (revNm L2)).sdir) := by
          have e1 : D1.un = D.un := by rw [HUN.out, hL2]; rfl
          have e2 : H.L = L0 ++ [(s, G)] := by rw [HLE.out, hL2]; simp
          refine ⟨?_, HREM.out.used, HREM.out.room, HREM.out.n, HDN.out, HARM.out, .inl HUN.out⟩
          rw [e1, ← e2, HO.out.fl]
          exact HO.out
        obtain ⟨D2, hD2e⟩ : ∃ D2, D2 = D1 := ⟨_, rfl⟩
        obtain ⟨Ad2, hAd2⟩ : ∃ A, A = Ad1 := ⟨_, rfl⟩
        have hH5 := H4.out
        have hDd2 := HD1.out
        rw [← hD2e] at hpack hDd2
        rw [← hAd2] at hH5 hDd2
        have H5 := Lib.hid hH5
        have HD2 := Lib.hid hDd2
        have HPK := Lib.hid hpack
        clear hpack hL2 hD2e hAd2 hH5 hDd2 y3 y0
        go_wp2_with fail
      case' true =>
        go_wp2_with fail
        cases hok1 : D1.ok
        case false =>
          refine (sdir_x (C.sub HS2.out) HD1.out (Hp.mid H4.out) hok1).mono ?_
          rintro e w6 ⟨rfl, Ad6, hD6, hH6⟩
          have H6 := Lib.hid (Hp.mid hH6)
          have HD6 := Lib.hid hD6
          have HPO := Lib.hid (beg_off hok1)
          clear hH6 hD6 hok1
          go_wp2_with fail
          go_ret
          refine .inr ⟨rfl, P2, Ah, Ad6, D1.beg, L0 ++ [(s, G)], L2, HS2.out, HM1.out, HD6.out, ⟨HPO.out.down, fun hh => HPO.out.was ⟨by have := HARM.out; omega, by rw [HDW.out]; exact hh.2⟩⟩, HLE.out, by simp, HBS.out, .inl (by rw [beg_un]; exact HUN.out), H6.out⟩
        case' true =>
          refine (sdir_ok (C.sub HS2.out) HD1.out (Hp.mid H4.out) hok1).mono ?_
          rintro e w6 ⟨rfl, Ad2, hD6, hH6⟩
          have hpack : HotOn D1.sdir.un { H with L := L0 ++ [(s, G)] } b0 (((L0 ++ [(s, G)]).map (·.2.l)).flatten) ∧ D1.sdir.used ≤ D.used ∧ D1.sdir.room = D.room ∧ D1.sdir.n = D.n ∧ D1.sdir.down = false ∧ D1.sdir.arm ≤ D.arm ∧ (D1.sdir.un = D.un.rems (revNm L2) ∨ D1.sdir.un = (D.un.rems (revNm L2)).sdir) := by
            have e1 : D1.sdir.un = (D.un.rems (revNm L2)).sdir := by rw [sdir_un, HUN.out]
            have e2 : D1.sdir.used = D1.used := by
              have h := sdir_used HREM.out.I
              rw [← sdir_un] at h; exact h
            have e3 := sdir_same HREM.out.I
            rw [← sdir_un] at e3
            have hon := sdir_on hok1
            refine ⟨?_, by rw [e2]; exact HREM.out.used, e3.room.trans HREM.out.room, e3.n.trans HREM.out.n, hon.down, Nat.le_trans hon.arm HARM.out, .inr e1⟩
            rw [e1]
            exact HO.out.prefix HLE.out
          obtain ⟨D2, hD2e⟩ : ∃ D2, D2 = D1.sdir := ⟨_, rfl⟩
          rw [← hD2e] at hpack hD6
          have H5 := Lib.hid (Hp.mid hH6)
          have HD2 := Lib.hid hD6
          have HPK := Lib.hid hpack
          clear hpack hD2e hH6 hD6 hok1 y3 y0
          go_wp2_with fail
      all_goals
        obtain ⟨p1, p2, p3, p4, p5, p6, p7⟩ := HPK.out
        have hSG2 : SegOn D2.un G := (p1.sg (s, G) (by simp)).1
        have hDG2 : DkM P2 G.d D2 Ad2 := by rw [HGD.out]; exact HD2.out
        have kb := H5.out.use HBX2.out
        have hsub2 : ∀ X Y : Mm, List.Perm (Ah ++ (X ++ Y)) (A1 ++ (X ++ (R ++ Y))) := fun X Y => (HPP.out (X ++ Y)).trans (List.Perm.append_left A1 (perm_mid R X Y))
        have HSUB2 := Lib.hid hsub2
        cases hok2 : D2.ok with
        | false =>
          have hcut := fun w' (hx : Hp w' P2 (A1 ++ (Ad2 ++ (R ++ F)))) => scut_jx (C.sub HS2.out) hok2 hG1 hSG2 hDG2 HCG.out j HJ.out hx
          rw [← HOJ.out] at hcut
          have HCUT := Lib.hid hcut
          have HPO := Lib.hid (beg_off hok2)
          clear p1 p2 p3 p4 p5 p6 p7 hSG2 hDG2 hsub2 hok2 hcut
          go_region_held3 (fun w' => w'.cell? ⟨w.heap.size, 0, none⟩ = some (.int .i64 o))
            (first
              | go_keep
              | exact kb)
            (first
              | (go_at_call 64
                 with_reducible refine (hlast_ok HM1.out rfl hl0n H5.out.drew).mono ?_
                 rintro e w7 ⟨rfl, hHa⟩
                 have hHb := hHa.perm (HSUB2.out Ad2 F)
                 have kb := hHa.use HBX2.out)
              | (go_at_call 96
                 with_reducible refine (HCUT.out _ hHb).mono ?_
                 rintro e w8 ⟨rfl, P8, Ad8, hs8, hD8, hH8⟩
                 have kb := hH8.use (HBX2.out.sub hs8)))
          have H8 := Lib.hid (hH8.perm (HSUB2.out Ad8 F).symm)
          have HD8 := Lib.hid hD8
          have HS8 := Lib.hid hs8
          clear hHa hHb hH8 hD8 hs8 kb
          go_wp2_with fail
          go_ret
          obtain ⟨p1, p2, p3, p4, p5, p6, p7⟩ := HPK.out
          refine .inr ⟨rfl, P8, Ah, Ad8, D2.beg, L0 ++ [(s, G)], L2, HS2.out.trans HS8.out, HM1.out, by rw [← HGD.out]; exact HD8.out, ⟨HPO.out.down, fun hh => HPO.out.was ⟨by omega, p5⟩⟩, HLE.out, by simp, HBS.out, by rw [beg_un]; exact p7, H8.out⟩
        | true =>
          have hcut := fun w' (hx : Hp w' P2 (A1 ++ (Ad2 ++ (R ++ F)))) => scut_j (C.sub HS2.out) hok2 hG1 hSG2 hDG2 HCG.out j HJ.out hx
          rw [← HOJ.out] at hcut
          have HCUT := Lib.hid hcut
          clear p1 p2 p3 p4 p5 p6 p7 hSG2 hDG2 hsub2 hok2 hcut
          go_region_held3 (fun w' => w'.cell? ⟨w.heap.size, 0, none⟩ = some (.int .i64 o))
            (first
              | go_keep
              | exact kb)
            (first
              | (go_at_call 64
                 with_reducible refine (hlast_ok HM1.out rfl hl0n H5.out.drew).mono ?_
                 rintro e w7 ⟨rfl, hHa⟩
                 have hHb := hHa.perm (HSUB2.out Ad2 F)
                 have kb := hHa.use HBX2.out)
              | (go_at_call 96
                 with_reducible refine (HCUT.out _ hHb).mono ?_
                 rintro e w8 ⟨rfl, P8, A8, Ad8, D8, hs8, hG8, hD8, hO8, hsm8, hu8, hl8, hpo8, hH8⟩
                 have kb := hH8.use (HBX2.out.sub hs8)))
          have H8 := Lib.hid hH8
          have HG8 := Lib.hid hG8
          have HD8 := Lib.hid hD8
          have HO8 := Lib.hid hO8
          have HSM8 := Lib.hid hsm8
          have HU8 := Lib.hid hu8
          have HL8 := Lib.hid hl8
          have HP8 := Lib.hid hpo8
          have HS8 := Lib.hid hs8
          clear hHa hHb hH8 hG8 hD8 hO8 hsm8 hu8 hl8 hpo8 hs8 kb
          go_wp2_with fail
          go_ret
          obtain ⟨p1, p2, p3, p4, p5, p6, p7⟩ := HPK.out
          obtain ⟨A9, hM9, hp9⟩ := HPUT.out (G.cutK j) A8 HG8.out
          have hO9 := p1.cutSeg rfl j HO8.out HSM8.out (by rw [un_used, un_used]; exact HU8.out) HL8.out
          rw [← HTK.out] at hO9
          refine .inl ⟨rfl, P8, A9, Ad8, D8, _, L0, s, G, L2, j, HS2.out.trans HS8.out, hM9, by rw [← HGD.out]; exact HD8.out, hO9, by rw [HLE.out]; simp, rfl, Nat.le_trans HU8.out p2, HSM8.out.room.trans p3, HSM8.out.n.trans p4, ⟨HP8.out.down, Nat.le_trans HP8.out.arm p6⟩, ?_⟩
          have h1 := H8.out.perm (List.Perm.append_left A8 (perm_mid Ad8 R F))
          exact h1.perm (hp9 _)
end
end Go.Proofs.YtncjffkpkmjgkaaGreatDoor.Sg
