/- cordwoodlaw7.SegFull answers true for every input. The statement SegFull of chapter 7 holds for every input: the call returns true and leaves its arguments as they were. -/
import Derived.Test.YtlkkagjpapjehaaGreatDoorMg
import Derived.Test.YtlkkagjpapjehaaGreatDoorMf
import Derived.Test.YtlkkagjpapjehaaGreatDoorCards
import Derived.Test.YtlkkagjpapjehaaGreatDoorTie
import Derived.ProofKit
import Derived.OpenShut
import Derived.LaidMore
import Derived.Deep.DeepWitnessRowRef

/-! Lu -/
namespace Go.Proofs.YtlkkagjpapjehaaGreatDoor.Sg
open Go.RowKit Er Go.Maps

section
variable {S : List Nat} {E : Nat → Addr} {B : Nat} {P : Pm} {s d : Nat} {D : Dk} {A Ad F : Mm} {w : World}

/-- A segment whose file has just its batches is opened as it is. -/
theorem sopen_on (C : Ctx S E B P) (hD : DkM P d D Ad) (base : Nat) (every : Nat) (h1 : 1 ≤ every) (h2 : every ≤ 1048576) (L : List Bt) (kept : Nat) (hO : SegOn D ⟨d, segNm base, base, every, L, kept⟩) (hch : Chain base 0 L) (hH : Hp w P (Ad ++ F)) :
    Calls Tryz.prog 40 #[ptr d, .int .i64 base, .int .i64 every] w fun e w' => ∃ s P' As A' D', e = .returned (.tuple #[ptr s, .int .i64 0, .nilIface]) ∧ Sub P P' ∧
      SgM s ⟨d, segNm base, base, every, L, sizes L⟩ As ∧ DkM P' d D' A' ∧ SegOn D' ⟨d, segNm base, base, every, L, sizes L⟩ ∧ DkSame D D' ∧ D'.used = D.used ∧ (∀ s', s' ≠ segNm base → D'.look s' = D.look s') ∧ Hp w' P' (As ++ (A' ++ F)) := by
  obtain ⟨f, l1, l2, l3⟩ := hO.f
  have l1' : D.look (segNm base) = some f := l1
  have l2' : f.b = flatB L := l2
  have hlen : f.b.length = sizes L := by rw [l2', flatB_len]
  refine (sopen_ok C hD hO.I base hO.base every h1 h2 f l1' hO.room hO.used L [] (by rw [l2', List.append_nil]) (fun x hx => ⟨hO.ok x hx, hO.by_ x hx⟩) (.inl rfl) hH).mono ?_
  rintro e w' ⟨s, P', As, A', rfl, hs, hG, hD', hH'⟩
  rw [folN_chain L base 0 hch] at hG hD'
  obtain ⟨o1, o2, o3, o4⟩ := opened_ok hO.I l1' (sizes L) (by omega)
  refine ⟨s, P', As, A', _, ?_, hs, hG, hD', ⟨o1, hO.ok, hO.by_, hO.base, hO.nm, ⟨{ f with b := f.b.take (sizes L), s := sizes L }, ?_, ?_, rfl⟩, ?_, ?_⟩, o4, by omega, fun s' hs' => ?_, hH'⟩
  · rw [folN_chain L base 0 hch, hlen, Nat.sub_self]; rfl
  · show Dk.look _ (segNm base) = _
    rw [o2, if_pos rfl]
  · show f.b.take (sizes L) = flatB L
    rw [← hlen, List.take_length, l2']
  · rw [o4.room]; exact hO.room
  · rw [o4.room]; have := hO.used; omega
  · rw [o2, if_neg hs']

theorem lay_one (hH : Hp w P F) (x : Int) : ∃ P2, Sub P P2 ∧ Hp (w.alloc (.cells #[.int .i64 x] 3)) P2 F ∧ Pers P2 (fun w1 => IntsR w1 (some ⟨w.heap.size, 0, none⟩) [x]) := by
  obtain ⟨P2, h1, h2, h3⟩ := hH.lay (.cells #[.int .i64 x] 3)
  refine ⟨P2, h1, h2, fun w1 hw k y hy => ?_⟩
  have hb := hw.m _ _ h3
  refine ⟨w.heap.size, 0, rfl, (Array.getElem?_eq_some_iff.1 hb).1, ?_⟩
  rcases k with _ | k
  · cases hy; simp [World.cell?, hb]
  · simp at hy

/-- Row of one number. -/
theorem row_one (hH : Hp w P F) (a : Option Addr) (c : Nat) (x : Int) (hr : Pers P (fun w => IntsR w a [x])) (base : Int) (h0 : 0 ≤ base) (h1 : base ≤ 1099511627776) :
    Calls Tryz.prog 12 #[.int .i64 base, .slice a 1 c, .int .i64 0] w fun e w' => ∃ g off cap P' p2, e = .returned (.slice (some ⟨g, off, none⟩) 1 cap) ∧ 1 ≤ cap ∧ Sub P P' ∧
      Pers P' (fun w => BtC w g off (rBt 0 x 0 base, p2)) ∧ Hp w' P' F := by
  refine (row_p hH a [x] c hr 0 (by decide) (by simp) base h0 h1).mono ?_
  rintro e w1 ⟨v1, P1, out, rfl, hs1, hm1, hb1, hH1⟩
  have hm2 : out.map (·.1) = [rBt 0 x 0 base] := hm1
  obtain ⟨p, rfl⟩ : ∃ p, out = [p] := by
    have hl : out.length = 1 := by have := congrArg List.length hm2; simpa using this
    exact List.length_eq_one_iff.1 hl
  obtain ⟨g, off, cap, rfl, hcap, hbc⟩ := hb1.at_ (k := 0) (by simp)
  have hp : p = (rBt 0 x 0 base, p.2) := by
    have : p.1 = rBt 0 x 0 base := by simpa using hm2
    rw [← this]
  refine ⟨g, off, cap, P1, p.2, rfl, by simpa using hcap, hs1, ?_, hH1⟩
  rw [← hp]
  simpa using hbc

/-! ### Row(s.End(), []int{x}, 0)[0], boxed: the values on the road -/
def R4 (xi : Int) (P : Pm) (v : Value) : Prop := ∃ g off, v = .pointer (some ⟨g, off, none⟩) ∧ Pers P (fun w => w.cell? ⟨g, off, none⟩ = some (.int .i64 xi))
theorem R4.sub {xi : Int} {P P' : Pm} {v : Value} (hs : Sub P P') (h : R4 xi P v) : R4 xi P' v := by obtain ⟨b, o, h1, h2⟩ := h; exact ⟨b, o, h1, h2.sub hs⟩
theorem Hp.as2 {w : World} {P : Pm} {A B C : Mm} (h : Hp w P (A ++ (B ++ C))) : Hp w P (A ++ B ++ C) := by rw [List.append_assoc]; exact h
theorem Hp.as3 {w : World} {P : Pm} {A B C : Mm} (h : Hp w P (A ++ B ++ C)) : Hp w P (A ++ (B ++ C)) := by rw [← List.append_assoc]; exact h
def R6 (xi : Int) (P : Pm) (v : Value) : Prop := ∃ b, v = .slice (some ⟨b, 0, none⟩) 1 1 ∧ Pers P (fun w => IntsR w (some ⟨b, 0, none⟩) [xi])
def R7 (x : Bt) (P : Pm) (v : Value) : Prop := ∃ g off cap p2, v = .slice (some ⟨g, off, none⟩) 1 cap ∧ 1 ≤ cap ∧ Pers P (fun w => BtC w g off (x, p2))
def R8 (x : Bt) (P : Pm) (v : Value) : Prop := ∃ g off p2, v = .pointer (some ⟨g, off, none⟩) ∧ Pers P (fun w => BtC w g off (x, p2))
def R9 (x : Bt) (P : Pm) (v : Value) : Prop := ∃ a c, v = .agg #[.int .i64 x.b, .int .i64 x.e, .slice a x.r.length c] ∧ Pers P (fun w => BtV w (.agg #[.int .i64 x.b, .int .i64 x.e, .slice a x.r.length c]) x)
theorem R6.sub {xi : Int} {P P' : Pm} {v : Value} (hs : Sub P P') (h : R6 xi P v) : R6 xi P' v := by obtain ⟨b, h1, h2⟩ := h; exact ⟨b, h1, h2.sub hs⟩
theorem R7.sub {x : Bt} {P P' : Pm} {v : Value} (hs : Sub P P') (h : R7 x P v) : R7 x P' v := by obtain ⟨g, o, c, p, h1, h2, h3⟩ := h; exact ⟨g, o, c, p, h1, h2, h3.sub hs⟩
theorem R8.sub {x : Bt} {P P' : Pm} {v : Value} (hs : Sub P P') (h : R8 x P v) : R8 x P' v := by obtain ⟨g, o, p, h1, h3⟩ := h; exact ⟨g, o, p, h1, h3.sub hs⟩
theorem R9.sub {x : Bt} {P P' : Pm} {v : Value} (hs : Sub P P') (h : R9 x P v) : R9 x P' v := by obtain ⟨a, c, h1, h3⟩ := h; exact ⟨a, c, h1, h3.sub hs⟩
abbrev bt0 : Obj := .cells #[.int .i64 0, .int .i64 0, .slice none 0 0] 40 (0, 0)
abbrev btO (x : Bt) (a : Option Addr) (c : Nat) : Obj := .cells #[.int .i64 x.b, .int .i64 x.e, .slice a x.r.length c] 40 (0, 0)
def JF (F : Mm) (x : Bt) (b : Nat) (P : Pm) (v : Value) (X : Mm) : Prop := match b with
  | 0 => X = F
  | 1 => ∃ g, v = ptr g ∧ X = (g, bt0) :: F
  | _ => ∃ g a c, v = ptr g ∧ X = (g, btO x a c) :: F ∧ Pers P (fun w => BtV w (.agg #[.int .i64 x.b, .int .i64 x.e, .slice a x.r.length c]) x)
theorem JF.sub {F : Mm} {x : Bt} {b : Nat} {P P' : Pm} {v : Value} {X : Mm} (hs : Sub P P') (h : JF F x b P v X) : JF F x b P' v X := by
  match b, h with
  | 0, h => exact h
  | 1, h => exact h
  | b + 2, h => obtain ⟨g, a, c, h1, h2, h3⟩ := h; exact ⟨g, a, c, h1, h2, h3.sub hs⟩
def JB (F : Mm) (M : Mm) (x : Bt) (b : Nat) (P : Pm) (w : World) (v : Value) : Prop := ∃ X, JF F x b P v X ∧ Hp w P (M ++ X)
theorem JB.at0 {F M : Mm} {x : Bt} {P : Pm} {w : World} {v : Value} (h : Hp w P (M ++ F)) : JB F M x 0 P w v := ⟨F, rfl, h⟩
theorem JB.alloc {F M : Mm} {x : Bt} {P : Pm} {w : World} {v : Value} (h : JB F M x 0 P w v) : JB F M x 1 P (w.alloc bt0) (ptr w.heap.size) := by
  obtain ⟨X, rfl, h⟩ := h
  exact ⟨(w.heap.size, bt0) :: X, ⟨w.heap.size, rfl, rfl⟩, Hp.mid (A := [_]) (B := M) (C := X) (h.alloc bt0)⟩
theorem JB.store {F M : Mm} {x : Bt} {P : Pm} {w : World} {v : Value} (h : JB F M x 1 P w v) : ∃ g, v = ptr g ∧ w.cell? ⟨g, 0, none⟩ = some (.int .i64 0) ∧ w.cell? ⟨g, 1, none⟩ = some (.int .i64 0) ∧ w.cell? ⟨g, 2, none⟩ = some (.slice none 0 0) ∧
    (∀ i, w.frozen? ⟨g, i, none⟩ = false) ∧ ∀ a c, Pers P (fun w => BtV w (.agg #[.int .i64 x.b, .int .i64 x.e, .slice a x.r.length c]) x) → JB F M x 2 P (((w.setCell ⟨g, 0, none⟩ (.int .i64 x.b)).setCell ⟨g, 1, none⟩ (.int .i64 x.e)).setCell ⟨g, 2, none⟩ (.slice a x.r.length c)) (ptr g) := by
  obtain ⟨X, ⟨g, rfl, rfl⟩, h⟩ := h
  have h1 := Hp.mid (A := M) (B := [(g, bt0)]) (C := F) h
  have hm : (g, bt0) ∈ [(g, bt0)] ++ (M ++ F) := List.mem_append_left _ (List.mem_singleton.2 rfl)
  refine ⟨g, rfl, h1.cell hm rfl, h1.cell hm rfl, h1.cell hm rfl, fun i => h1.frozen hm i, fun a c hp => ⟨(g, btO x a c) :: F, ⟨g, a, c, rfl, rfl, hp⟩, ?_⟩⟩
  have hz := ((Hp.set (M := M ++ F) h1 0 (.int .i64 x.b)).set 1 (.int .i64 x.e)).set 2 (.slice a x.r.length c)
  exact Hp.mid (A := [_]) (B := M) (C := F) (by simpa using hz)

theorem bt_sealed {M F : Mm} {g : Nat} {x : Bt} {a : Option Addr} {c : Nat} (h : Hp w P (M ++ (g, btO x a c) :: F)) : ∃ P', Sub P P' ∧ Hp w P' (M ++ F) ∧
    Pers P' (fun w => w.cell? ⟨g, 0, none⟩ = some (.int .i64 x.b) ∧ w.cell? ⟨g, 1, none⟩ = some (.int .i64 x.e) ∧ w.cell? ⟨g, 2, none⟩ = some (.slice a x.r.length c)) := by
  have h1 : Hp w P ((g, btO x a c) :: (M ++ F)) := Hp.mid (A := M) (B := [(g, btO x a c)]) (C := F) h
  obtain ⟨h2, h3⟩ := Hp.seal h1
  have hm : (P.ins g (btO x a c)).m g = some (btO x a c) := by simp [Pm.ins]
  exact ⟨_, h2, h3, fun w1 hw => by have hb := hw.m _ _ hm; simp [World.cell?, hb]⟩

/-- What holds at the head of SegFull's loop. -/
def FullRel (P : Pm) (F : Mm) (d s room : Nat) (n : Nat) (m : Nat) (vi : Value) (w : World) : Prop :=
  ∃ (k : Nat) (P' : Pm) (A Ad : Mm) (D : Dk) (L : List Bt), k + m = n ∧ vi = .int .i64 k ∧ Sub P P' ∧ SgM s ⟨d, segNm 0, 0, 10, L, 0⟩ A ∧ DkM P' d D Ad ∧ SegOn D ⟨d, segNm 0, 0, 10, L, 0⟩ ∧
    D.room = room ∧ D.used = sizes L ∧ Chain 0 0 L ∧ epOf 0 L ≤ 1 ∧ 0 ≤ endOf 0 L ∧ endOf 0 L ≤ 5 * (k : Int) ∧ Hp w P' (A ++ (Ad ++ F))

set_option maxRecDepth 100000 in
set_option maxHeartbeats 4000000 in
theorem full_all (o : Int) (a0 : Option Addr) (len0 cap0 : Nat) (z0 : List Int) (W : World) (h : IsRow W a0 len0 cap0 z0) {S : List Nat} (hS : ∀ i, i < 10 ∨ i = 14 → i ∈ S) (hE : Errs S W (errAt W) W.heap.size)
    (hT : Lib.TabIs Tryz.prog W "internal/strconv.uint64pow10" .u64 Lib.pow10Tab) :
    Calls Tryz.prog 7 #[.int .i64 o, .slice a0 len0 cap0] W fun e W' => e = .returned (.bool true) ∧ Below W.heap.size W W' := by
  have C := ctx_start hS hE hT
  obtain ⟨xs, rfl, hC⟩ := isRow_C h
  have hCp := ints_pers hC
  have H0 : Hid (Hp W (Pm.start W) []) := Hp.start W
  clear h hC hE hT
  have HCP := Lib.hid hCp
  clear hCp
  go_enter Tryz.func7, Tryz.ntmps7
  go_wp2_with fail
  refine (first_ok C H0.out).mono ?_
  rintro e w1 ⟨rfl, P1, hs1, hH1⟩
  have H1 := Lib.hid hH1
  have HS1 := Lib.hid hs1
  clear hH1 hs1
  go_wp2_with fail
  refine (number_any o 300 (by omega) (by omega) _).mono ?_
  rintro e w2 ⟨rfl, rfl⟩
  have ha0 := Int.emod_nonneg o (show ((300 : Nat) : Int) ≠ 0 by omega)
  have ha1 := Int.emod_lt_of_pos o (show 0 < ((300 : Nat) : Int) by omega)
  obtain ⟨rm, hrm⟩ : ∃ rm : Nat, o % ((300 : Nat) : Int) = rm := ⟨(o % ((300 : Nat) : Int)).toNat, by omega⟩
  rw [hrm] at ha0 ha1 ⊢
  have H2 := H1
  clear hrm
  by_cases hlen : 12 < xs.length
  · have i1 : (12 : Int) < (xs.length : Int) := by omega
    have HB := Lib.hid (H2.out.to_below HS1.out)
    go_wp2_with fail
    go_ret
    exact ⟨rfl, HB.out⟩
  have i1 : ¬ (12 : Int) < (xs.length : Int) := by omega
  have hr1 : (rm : Int) + 1 = ((rm + 1 : Nat) : Int) := by omega
  obtain ⟨rn, hrn⟩ : ∃ rn : Nat, rm + 1 = rn := ⟨_, rfl⟩
  have hn1 : 1 ≤ rn := by omega
  have hn2 : rn ≤ 300 := by omega
  go_wp2_with fail
  clear hr1 hrn ha0 ha1
  refine (new_ok H2.out rn hn1 (by omega)).mono ?_
  rintro e w3 ⟨d, Ad, rfl, hD, hH3⟩
  have H3 := Lib.hid hH3
  have HD := Lib.hid hD
  clear hH3 hD
  go_wp2_with fail
  refine (screate_ok (C.sub HS1.out) HD.out (dk0_I _) 0 (by decide) 10 (by decide) (by decide) rfl (Nat.zero_le _) (Nat.zero_lt_succ _) (Nat.zero_le _) H3.out).mono ?_
  rintro e w4 ⟨s, b, A2, Ad2, rfl, hG2, hD2, hnd, hH4⟩
  have hI0 := dk0_I rn
  have hI2 := made_I hI0 (nm := segNm 0) rfl hnd
  have hlk := made_look hI0 (nm := segNm 0) rfl hnd
  have hus := made_used hI0 (nm := segNm 0) rfl hnd
  obtain ⟨r1, -, -, -⟩ := made_room hI0 (nm := segNm 0) rfl hnd
  have hus0 : (dk0 rn).used = 0 := rfl
  have hO : SegOn ((dk0 rn).made (segNm 0) b) (sg0 d 0 10) :=
    ⟨hI2, by simp [sg0], by simp [sg0], Nat.zero_le _, by simp [sg0, segNm_len], ⟨⟨b, 1, [], 0⟩, by show Dk.look _ (segNm 0) = _; rw [hlk, if_pos rfl]; rfl, rfl, rfl⟩, by rw [r1]; show rn ≤ _; omega, by rw [hus, hus0]; omega⟩
  have hstart : FullRel P1 [] d s rn xs.length xs.length (.int .i64 ((0 : Nat) : Int)) w4 :=
    ⟨0, P1, A2, Ad2, _, [], by omega, rfl, Sub.refl P1, hG2, hD2, hO, by rw [r1]; rfl, by rw [hus, hus0]; rfl, trivial, by decide, by decide, by decide, hH4⟩
  have HST := Lib.hid hstart
  clear hI0 hI2 hlk hus r1 hus0 hO hstart hH4 hnd hG2 hD2 H3 HD
  go_wp2_with fail
  go_loopg [10, 11, 12, 13, 14] xs.length (fun m vi _ _ _ _ wr => FullRel P1 [] d s rn xs.length m vi wr)
  case atStart => exact HST.out
  case round =>
    obtain ⟨k, P2, A, Ad, D, L, hk, rfl, hs2, hG, hD, hO, hroom, hused, hch, hep, he1, he2, hHr⟩ := hrel
    by_cases hlt : k < xs.length
    · obtain ⟨gj, rfl⟩ : ∃ x, gk = x + 1 := ⟨gk - 1, by omega⟩
      obtain ⟨xi, hxi⟩ : ∃ x, xs[k]? = some x := ⟨_, List.getElem?_eq_getElem hlt⟩
      obtain ⟨en, hen⟩ : ∃ en, endOf 0 L = en := ⟨_, rfl⟩
      rw [hen] at he1 he2
      have j1 : (k : Int) < (xs.length : Int) := by omega
      have j2 : (0 : Int) ≤ (k : Int) := by omega
      have HEN := Lib.hid hen
      have HR := Lib.hid hHr
      have HU := Lib.hid hused
      have HRM := Lib.hid hroom
      have HK := Lib.hid hk
      have HX := Lib.hid hxi
      clear hen hHr hused hroom hk
      obtain ⟨x, hxd⟩ : ∃ x, x = rBt 0 xi 0 en := ⟨_, rfl⟩
      have HXD := Lib.hid hxd
      have he1' : 0 ≤ en := he1
      have hen5 : en ≤ 1099511627776 := by omega
      clear hxd
      go_wp2_with fail
      refine wp_region_ph (by kernel_rfl) (by decide) 10 11 (by kernel_rfl) ⟨by decide, by decide⟩ (by decide) _ (JB [] (A ++ Ad) x) (fun v => JB.at0 (HR.out.drew.as2)) (fun i P v => match i with | 0 => v = ptr s | 1 => v = .int .i64 en | 2 => v = .slice a0 xs.length cap0 | 3 => v = .int .i64 k | 4 => R4 xi P v | 5 => v = .int .i64 xi | 6 => R6 xi P v | 7 => R7 x P v | 8 => R8 x P v | 9 => R9 x P v | 10 => True | 11 => True | _ => True) (by intro i P P' v hs h; rcases i with _ | _ | _ | _ | _ | _ | _ | _ | _ | _ | _ | _ | i <;> first | exact h | exact R4.sub hs h | exact R6.sub hs h | exact R7.sub hs h | exact R8.sub hs h | exact R9.sub hs h) ?_ ?_
      · intro i o ho b u w2 Q2 hsq hJ hp q1 q2 q3 q4 K hK
        rcases i with _ | _ | _ | _ | _ | _ | _ | _ | _ | _ | _ | _ | i
        · cases ho
          simp only [frOf, Act.put, List.setIfInBounds_toArray, List.set_cons_zero, List.set_cons_succ, Nat.zero_add, Nat.reduceAdd] at hK ⊢
          go_simp
          exact hK _ w2 Q2 (Sub.refl _) hJ rfl
        · cases ho
          have h0 : u 0 = ptr s := hp ⟨0, .data⟩ (by simp) rfl
          simp only [frOf, Act.put, List.setIfInBounds_toArray, List.set_cons_zero, List.set_cons_succ, Nat.zero_add, Nat.reduceAdd] at hK ⊢
          simp only [h0] at hK ⊢
          obtain ⟨X, hX, hH2⟩ := hJ
          go_simp
          refine (end_any hG hO.W (Hp.as3 hH2)).mono ?_
          rintro e w3 ⟨rfl, hz⟩
          rw [show Sg.end_ ⟨d, segNm 0, 0, 10, L, 0⟩ = en from HEN.out]
          exact hK _ w3 Q2 (Sub.refl _) ⟨X, hX, Hp.as2 hz⟩ rfl
        · cases ho
          simp only [frOf, Act.put, List.setIfInBounds_toArray, List.set_cons_zero, List.set_cons_succ, Nat.zero_add, Nat.reduceAdd] at hK ⊢
          go_simp
          exact hK _ w2 Q2 (Sub.refl _) hJ rfl
        · cases ho
          simp only [frOf, Act.put, List.setIfInBounds_toArray, List.set_cons_zero, List.set_cons_succ, Nat.zero_add, Nat.reduceAdd] at hK ⊢
          go_simp
          exact hK _ w2 Q2 (Sub.refl _) hJ rfl
        · cases ho
          have h2 : u 2 = .slice a0 xs.length cap0 := hp ⟨2, .data⟩ (by simp) rfl
          have h3 : u 3 = .int .i64 k := hp ⟨3, .data⟩ (by simp) rfl
          simp only [frOf, Act.put, List.setIfInBounds_toArray, List.set_cons_zero, List.set_cons_succ, Nat.zero_add, Nat.reduceAdd] at hK ⊢
          simp only [h2, h3] at hK ⊢
          obtain ⟨X, hX, hH2⟩ := hJ
          obtain ⟨gx, ox, rfl, -, -⟩ := hH2.use (HCP.out.sub (HS1.out.trans (hs2.trans hsq))) k xi HX.out
          go_simp
          exact hK _ w2 Q2 (Sub.refl _) ⟨X, hX, hH2⟩ ⟨gx, ox + k, by simp, (HCP.out.sub (HS1.out.trans (hs2.trans hsq))).imp (fun w1 h => by obtain ⟨g1, o1, e1, -, e3⟩ := h k xi HX.out; cases e1; exact e3)⟩
        · cases ho
          have hr4 : R4 xi Q2 (u 4) := hp ⟨4, .data⟩ (by simp) rfl
          simp only [frOf, Act.put, List.setIfInBounds_toArray, List.set_cons_zero, List.set_cons_succ, Nat.zero_add, Nat.reduceAdd] at hK ⊢
          obtain ⟨gx, ox, h4, c4⟩ := hr4
          simp only [h4] at hK ⊢
          obtain ⟨X, hX, hH2⟩ := hJ
          have z4 := hH2.use c4
          go_simp
          exact hK _ w2 Q2 (Sub.refl _) ⟨X, hX, hH2⟩ rfl
        · cases ho
          have h5 : u 5 = .int .i64 xi := hp ⟨5, .data⟩ (by simp) rfl
          simp only [frOf, Act.put, List.setIfInBounds_toArray, List.set_cons_zero, List.set_cons_succ, Nat.zero_add, Nat.reduceAdd] at hK ⊢
          simp only [h5] at hK ⊢
          obtain ⟨X, hX, hH2⟩ := hJ
          go_simp
          obtain ⟨Q3, z1, z2, z3⟩ := lay_one hH2 xi
          exact hK _ _ Q3 z1 ⟨X, hX.sub z1, z2⟩ ⟨_, rfl, z3⟩
        · cases ho
          have h1 : u 1 = .int .i64 en := hp ⟨1, .data⟩ (by simp) rfl
          have hr6 : R6 xi Q2 (u 6) := hp ⟨6, .data⟩ (by simp) rfl
          simp only [frOf, Act.put, List.setIfInBounds_toArray, List.set_cons_zero, List.set_cons_succ, Nat.zero_add, Nat.reduceAdd] at hK ⊢
          obtain ⟨b6, h6, c6⟩ := hr6
          simp only [h1, h6] at hK ⊢
          obtain ⟨X, hX, hH2⟩ := hJ
          go_simp
          refine (row_one hH2 _ 1 xi c6 en he1' hen5).mono ?_
          rintro e w3 ⟨g, off, cap, Q3, p2, rfl, hcap, z1, z2, z3⟩
          exact hK _ _ Q3 z1 ⟨X, hX.sub z1, z3⟩ ⟨g, off, cap, p2, rfl, hcap, by rw [HXD.out]; exact z2⟩
        · cases ho
          have hr7 : R7 x Q2 (u 7) := hp ⟨7, .data⟩ (by simp) rfl
          simp only [frOf, Act.put, List.setIfInBounds_toArray, List.set_cons_zero, List.set_cons_succ, Nat.zero_add, Nat.reduceAdd] at hK ⊢
          obtain ⟨g7, o7, cap7, p7, h7, c7, d7⟩ := hr7
          simp only [h7] at hK ⊢
          go_simp
          exact hK _ w2 Q2 (Sub.refl _) hJ ⟨g7, o7, p7, by simp, d7⟩
        · cases ho
          have hr8 : R8 x Q2 (u 8) := hp ⟨8, .data⟩ (by simp) rfl
          simp only [frOf, Act.put, List.setIfInBounds_toArray, List.set_cons_zero, List.set_cons_succ, Nat.zero_add, Nat.reduceAdd] at hK ⊢
          obtain ⟨g8, o8, p8, h8, d8⟩ := hr8
          simp only [h8] at hK ⊢
          obtain ⟨X, hX, hH2⟩ := hJ
          obtain ⟨-, c0, c1, c2, hrc⟩ := hH2.use d8
          obtain ⟨ra, rc, hsl⟩ := hrc.shape
          obtain rfl : p8 = .slice ra x.r.length rc := hsl
          go_simp
          exact hK _ w2 Q2 (Sub.refl _) ⟨X, hX, hH2⟩ ⟨ra, rc, rfl, d8.imp (fun w1 h => ⟨_, rfl, h.2.2.2.2⟩)⟩
        · cases ho
          simp only [frOf, Act.put, List.setIfInBounds_toArray, List.set_cons_zero, List.set_cons_succ, Nat.zero_add, Nat.reduceAdd] at hK ⊢
          obtain rfl : b = 0 := ph0 (fun h => (q1 h).2 rfl)
          go_simp
          exact hK _ _ Q2 (Sub.refl _) (JB.alloc hJ) trivial
        · cases ho
          have hr9 : R9 x Q2 (u 9) := hp ⟨9, .data⟩ (by simp) rfl
          simp only [frOf, Act.put, List.setIfInBounds_toArray, List.set_cons_zero, List.set_cons_succ, Nat.zero_add, Nat.reduceAdd] at hK ⊢
          obtain ⟨ra, rc, h9, d9⟩ := hr9
          obtain rfl : b = 1 := ph1 (q3 (by kernel_rfl)) (fun e => (q2 e).2 rfl) q4
          obtain ⟨g, h10, y0, y1, y2, yf, hJ2⟩ := JB.store hJ
          have f0 := yf 0
          have f1 := yf 1
          have f2 := yf 2
          simp only [h9, h10] at hK ⊢
          go_simp
          exact hK undef _ Q2 (Sub.refl _) (hJ2 ra rc d9) trivial
        · exact absurd ho (by simp)
      · intro u w2 Q2 hsq hJ hR
        obtain ⟨X, hX, hH5⟩ := hJ
        obtain ⟨g, ra, rc, hg, rfl, hbv⟩ : ∃ g a c, u 10 = ptr g ∧ X = (g, btO x a c) :: [] ∧ Pers Q2 (fun w => BtV w (.agg #[.int .i64 x.b, .int .i64 x.e, .slice a x.r.length c]) x) := hX
        simp only [frOf, List.setIfInBounds_toArray, List.set_cons_zero, List.set_cons_succ, Nat.zero_add, Nat.reduceAdd]
        simp only [hg]
        obtain ⟨Q3, hs3, hH6, hcl⟩ := bt_sealed hH5
        have H6 := Lib.hid hH6.as3
        have HCL := Lib.hid hcl
        have HBV := Lib.hid (hbv.sub hs3)
        have HSQ := Lib.hid (hs2.trans (hsq.trans hs3))
        have HDQ := Lib.hid (hD.sub (hsq.trans hs3))
        have hC := C.sub (HS1.out.trans HSQ.out)
        have HC := Lib.hid hC
        have HG := Lib.hid hG
        have HO := Lib.hid hO
        clear hH5 hH6 hcl hbv hs3 hsq hs2 hD hR hg hG hO hC
        go_wp2_with fail
        refine (ssize_any HG.out HO.out.W H6.out).mono ?_
        rintro e w3 ⟨rfl, hH7⟩
        obtain ⟨sz, hsz⟩ : ∃ sz, sizes L = sz := ⟨_, rfl⟩
        rw [show sizes (Sg.l ⟨d, segNm 0, 0, 10, L, 0⟩) = sz from hsz]
        obtain ⟨bz, hbz⟩ : ∃ bz, szB x = bz := ⟨_, rfl⟩
        have hxm : ∀ y, y ∈ rowGo 0 [xi] 0 en → BtOk y ∧ BtBy y := row_ok 0 [xi] 0 en he1' (by simp; omega) (by simp)
        obtain ⟨hxo, hxb⟩ := hxm x (by rw [HXD.out]; exact List.mem_singleton.2 rfl)
        have hxB : x.b = en := by rw [HXD.out]; rfl
        have hxE : x.e = 1 := by rw [HXD.out]; rfl
        have hxl : (x.r.length : Int) = (rN xi : Int) := by rw [HXD.out, rBt_len]
        have hrn5 := (rN_pos xi).2
        have hfoll : (⟨d, segNm 0, 0, 10, L, 0⟩ : Sg).foll x = true := by
          have e1 : Sg.end_ ⟨d, segNm 0, 0, 10, L, 0⟩ = en := HEN.out
          have e2 : Sg.lastE ⟨d, segNm 0, 0, 10, L, 0⟩ = epOf 0 L := rfl
          unfold Sg.foll
          rw [e1, e2, hxB, hxE]
          simp [hep]
        have hszb := szB_le x hxo
        rw [hbz] at hszb
        have hu1 := HO.out.used
        rw [HU.out, HRM.out, hsz] at hu1
        have g2 : sz ≤ 300 := by omega
        obtain ⟨cz0, cz1, cz2⟩ := hH7.use HCL.out
        have H7 := Lib.hid hH7
        have HXO := Lib.hid hxo
        have HXB := Lib.hid hxb
        have HXBB := Lib.hid hxB
        have HXE := Lib.hid hxE
        have HXL := Lib.hid hxl
        have HF := Lib.hid hfoll
        have HSZ := Lib.hid hsz
        have HBZ := Lib.hid hbz
        have HZC := Lib.hid hch
        clear hH7 hxo hxb hxB hxE hxl hfoll hsz hbz hxm hch
        by_cases hfit : sz + bz ≤ rn
        · have i2 : (sz : Int) + (bz : Int) ≤ (rn : Int) := by omega
          have i3 : decide ((sz : Int) + (bz : Int) ≤ (rn : Int)) = true := decide_eq_true i2
          go_wp2_with fail
          refine (sappend_on HC.out HG.out HO.out HDQ.out x HXO.out HXB.out _ HBV.out HF.out (by rw [HU.out, HRM.out, HSZ.out, HBZ.out]; exact hfit) H7.out).mono ?_
          rintro e w4 ⟨rfl, Q4, A4, Ad4, D4, hs4, hG4, hD4, hO4, hsm4, hus4, -, hH8⟩
          have hpush : (Sg.push ⟨d, segNm 0, 0, 10, L, 0⟩ x) = ⟨d, segNm 0, 0, 10, L ++ [x], 0⟩ := rfl
          rw [hpush] at hG4 hO4
          obtain ⟨cy0, cy1, cy2⟩ := hH8.use (HCL.out.sub hs4)
          have H8 := Lib.hid hH8
          have HG4 := Lib.hid hG4
          have HO4 := Lib.hid hO4
          have HD4 := Lib.hid hD4
          have HS4 := Lib.hid hs4
          have HR4 := Lib.hid (hsm4.room.trans HRM.out)
          have HU4 := Lib.hid hus4
          clear hH8 hG4 hO4 hD4 hs4 hsm4 hus4 hpush cz0 cz1 cz2
          go_wp2_with fail
          refine (rsize_any x HXO.out HXB.out _ _ (H8.out.use (HBV.out.sub HS4.out))).mono ?_
          rintro e w5 ⟨rfl, hb5⟩
          rw [HBZ.out]
          have hH9 := H8.out.below hb5 (Nat.le_refl _)
          obtain ⟨cx0, cx1, cx2⟩ := hH9.use (HCL.out.sub HS4.out)
          have H9 := Lib.hid hH9
          clear hb5 hH9 cy0 cy1 cy2
          go_wp2_with fail
          have hend : endOf 0 (L ++ [x]) = en + (rN xi : Int) := by rw [endOf_snoc, HXBB.out, HXL.out]
          have HEND := Lib.hid hend
          clear hend
          refine wp_region_hp (by kernel_rfl) (by decide) _ _ H9.out (fun i _ v => match i with | 0 => v = Value.nilIface | 1 => v = .bool true | 2 => v = .bool true | 3 => v = .bool false | 4 => v = .bool false | 5 => v = .bool true | 6 => v = .bool false | 7 => v = .bool false | 8 => v = undef | 9 => v = undef | 10 => v = undef | 11 => v = undef | 12 => v = undef | 13 => v = undef | 14 => v = undef | 15 => v = undef | 16 => v = undef | 17 => v = undef | 18 => v = undef | 19 => v = .bool false | 20 => v = .bool false | 21 => v = .bool false | 22 => v = .bool true | 23 => v = .bool true | 24 => v = ptr s | 25 => v = .int .i64 (en + (rN xi : Int)) | 26 => v = .agg #[.int .i64 x.b, .int .i64 x.e, .slice ra x.r.length rc] | 27 => v = .int .i64 (en + (rN xi : Int)) | 28 => v = .bool false | 29 => v = .bool false | 30 => v = .bool false | _ => True) (by intro i P P' v _ h; exact h) ?_ ?_
          · intro i o ho u wq Pq hsq hHq hp K hK
            rcases i with _ | _ | _ | _ | _ | _ | _ | _ | _ | _ | _ | _ | _ | _ | _ | _ | _ | _ | _ | _ | _ | _ | _ | _ | _ | _ | _ | _ | _ | _ | _ | i
            · cases ho
              simp only [frOf, Act.put, List.setIfInBounds_toArray, List.set_cons_zero, List.set_cons_succ, Nat.zero_add, Nat.reduceAdd] at hK ⊢
              go_simp
              exact hK _ wq Pq (Sub.refl _) hHq rfl
            · cases ho
              have h0 : u 0 = Value.nilIface := hp ⟨0, .data⟩ (by simp) rfl
              simp only [frOf, Act.put, List.setIfInBounds_toArray, List.set_cons_zero, List.set_cons_succ, Nat.zero_add, Nat.reduceAdd] at hK ⊢
              simp only [h0] at hK ⊢
              go_simp
              exact hK _ wq Pq (Sub.refl _) hHq rfl
            · cases ho
              simp only [frOf, Act.put, List.setIfInBounds_toArray, List.set_cons_zero, List.set_cons_succ, Nat.zero_add, Nat.reduceAdd] at hK ⊢
              go_simp
              exact hK _ wq Pq (Sub.refl _) hHq rfl
            · cases ho
              have h1 : u 1 = .bool true := hp ⟨1, .data⟩ (by simp) rfl
              have h2 : u 2 = .bool true := hp ⟨2, .data⟩ (by simp) rfl
              simp only [frOf, Act.put, List.setIfInBounds_toArray, List.set_cons_zero, List.set_cons_succ, Nat.zero_add, Nat.reduceAdd] at hK ⊢
              simp only [h1, h2] at hK ⊢
              go_simp
              exact hK _ wq Pq (Sub.refl _) hHq rfl
            · cases ho
              have h3 : u 3 = .bool false := hp ⟨3, .data⟩ (by simp) rfl
              simp only [frOf, Act.put, List.setIfInBounds_toArray, List.set_cons_zero, List.set_cons_succ, Nat.zero_add, Nat.reduceAdd] at hK ⊢
              simp only [h3] at hK ⊢
              go_simp
              exact hK _ wq Pq (Sub.refl _) hHq rfl
            · cases ho
              have h4 : u 4 = .bool false := hp ⟨4, .guard⟩ (by simp) rfl
              simp only [frOf, Act.put, List.setIfInBounds_toArray, List.set_cons_zero, List.set_cons_succ, Nat.zero_add, Nat.reduceAdd] at hK ⊢
              simp only [h4] at hK ⊢
              go_simp
              exact hK _ wq Pq (Sub.refl _) hHq rfl
            · cases ho
              have h5 : u 5 = .bool true := hp ⟨5, .data⟩ (by simp) rfl
              have h4 : u 4 = .bool false := hp ⟨4, .guard⟩ (by simp) rfl
              simp only [frOf, Act.put, List.setIfInBounds_toArray, List.set_cons_zero, List.set_cons_succ, Nat.zero_add, Nat.reduceAdd] at hK ⊢
              simp only [h5, h4] at hK ⊢
              go_simp
              exact hK _ wq Pq (Sub.refl _) hHq rfl
            · cases ho
              have h6 : u 6 = .bool false := hp ⟨6, .data⟩ (by simp) rfl
              have h4 : u 4 = .bool false := hp ⟨4, .guard⟩ (by simp) rfl
              simp only [frOf, Act.put, List.setIfInBounds_toArray, List.set_cons_zero, List.set_cons_succ, Nat.zero_add, Nat.reduceAdd] at hK ⊢
              simp only [h6, h4] at hK ⊢
              go_simp
              exact hK _ wq Pq (Sub.refl _) hHq rfl
            · cases ho
              have h7 : u 7 = .bool false := hp ⟨7, .guard⟩ (by simp) rfl
              simp only [frOf, Act.put, List.setIfInBounds_toArray, List.set_cons_zero, List.set_cons_succ, Nat.zero_add, Nat.reduceAdd] at hK ⊢
              simp only [h7]
              first | exact trivial | (go_simp; done) | (rw [if_neg (by decide)]; trivial) | (rw [if_neg (Bool.not_eq_true _ ▸ (by kernel_rfl))]; trivial)
            · cases ho
              have h8 : u 8 = undef := hp ⟨8, .data⟩ (by simp) rfl
              have h7 : u 7 = .bool false := hp ⟨7, .guard⟩ (by simp) rfl
              simp only [frOf, Act.put, List.setIfInBounds_toArray, List.set_cons_zero, List.set_cons_succ, Nat.zero_add, Nat.reduceAdd] at hK ⊢
              simp only [h8, h7]
              first | exact trivial | (go_simp; done) | (rw [if_neg (by decide)]; trivial) | (rw [if_neg (Bool.not_eq_true _ ▸ (by kernel_rfl))]; trivial)
            · cases ho
              have h7 : u 7 = .bool false := hp ⟨7, .guard⟩ (by simp) rfl
              simp only [frOf, Act.put, List.setIfInBounds_toArray, List.set_cons_zero, List.set_cons_succ, Nat.zero_add, Nat.reduceAdd] at hK ⊢
              simp only [h7]
              first | exact trivial | (go_simp; done) | (rw [if_neg (by decide)]; trivial) | (rw [if_neg (Bool.not_eq_true _ ▸ (by kernel_rfl))]; trivial)
            · cases ho
              have h9 : u 9 = undef := hp ⟨9, .data⟩ (by simp) rfl
              have h10 : u 10 = undef := hp ⟨10, .data⟩ (by simp) rfl
              have h7 : u 7 = .bool false := hp ⟨7, .guard⟩ (by simp) rfl
              simp only [frOf, Act.put, List.setIfInBounds_toArray, List.set_cons_zero, List.set_cons_succ, Nat.zero_add, Nat.reduceAdd] at hK ⊢
              simp only [h9, h10, h7]
              first | exact trivial | (go_simp; done) | (rw [if_neg (by decide)]; trivial) | (rw [if_neg (Bool.not_eq_true _ ▸ (by kernel_rfl))]; trivial)
            · cases ho
              have h11 : u 11 = undef := hp ⟨11, .data⟩ (by simp) rfl
              have h7 : u 7 = .bool false := hp ⟨7, .guard⟩ (by simp) rfl
              simp only [frOf, Act.put, List.setIfInBounds_toArray, List.set_cons_zero, List.set_cons_succ, Nat.zero_add, Nat.reduceAdd] at hK ⊢
              simp only [h11, h7]
              first | exact trivial | (go_simp; done) | (rw [if_neg (by decide)]; trivial) | (rw [if_neg (Bool.not_eq_true _ ▸ (by kernel_rfl))]; trivial)
            · cases ho
              have h12 : u 12 = undef := hp ⟨12, .guard⟩ (by simp) rfl
              simp only [frOf, Act.put, List.setIfInBounds_toArray, List.set_cons_zero, List.set_cons_succ, Nat.zero_add, Nat.reduceAdd] at hK ⊢
              simp only [h12]
              first | exact trivial | (go_simp; done) | (rw [if_neg (by decide)]; trivial) | (rw [if_neg (Bool.not_eq_true _ ▸ (by kernel_rfl))]; trivial)
            · cases ho
              have h13 : u 13 = undef := hp ⟨13, .data⟩ (by simp) rfl
              have h12 : u 12 = undef := hp ⟨12, .guard⟩ (by simp) rfl
              simp only [frOf, Act.put, List.setIfInBounds_toArray, List.set_cons_zero, List.set_cons_succ, Nat.zero_add, Nat.reduceAdd] at hK ⊢
              simp only [h13, h12]
              first | exact trivial | (go_simp; done) | (rw [if_neg (by decide)]; trivial) | (rw [if_neg (Bool.not_eq_true _ ▸ (by kernel_rfl))]; trivial)
            · cases ho
              have h12 : u 12 = undef := hp ⟨12, .guard⟩ (by simp) rfl
              simp only [frOf, Act.put, List.setIfInBounds_toArray, List.set_cons_zero, List.set_cons_succ, Nat.zero_add, Nat.reduceAdd] at hK ⊢
              simp only [h12]
              first | exact trivial | (go_simp; done) | (rw [if_neg (by decide)]; trivial) | (rw [if_neg (Bool.not_eq_true _ ▸ (by kernel_rfl))]; trivial)
            · cases ho
              have h15 : u 15 = undef := hp ⟨15, .data⟩ (by simp) rfl
              have h12 : u 12 = undef := hp ⟨12, .guard⟩ (by simp) rfl
              simp only [frOf, Act.put, List.setIfInBounds_toArray, List.set_cons_zero, List.set_cons_succ, Nat.zero_add, Nat.reduceAdd] at hK ⊢
              simp only [h15, h12]
              first | exact trivial | (go_simp; done) | (rw [if_neg (by decide)]; trivial) | (rw [if_neg (Bool.not_eq_true _ ▸ (by kernel_rfl))]; trivial)
            · cases ho
              have h14 : u 14 = undef := hp ⟨14, .data⟩ (by simp) rfl
              have h16 : u 16 = undef := hp ⟨16, .data⟩ (by simp) rfl
              have h12 : u 12 = undef := hp ⟨12, .guard⟩ (by simp) rfl
              simp only [frOf, Act.put, List.setIfInBounds_toArray, List.set_cons_zero, List.set_cons_succ, Nat.zero_add, Nat.reduceAdd] at hK ⊢
              simp only [h14, h16, h12]
              first | exact trivial | (go_simp; done) | (rw [if_neg (by decide)]; trivial) | (rw [if_neg (Bool.not_eq_true _ ▸ (by kernel_rfl))]; trivial)
            · cases ho
              have h12 : u 12 = undef := hp ⟨12, .data⟩ (by simp) rfl
              have h17 : u 17 = undef := hp ⟨17, .data⟩ (by simp) rfl
              have h7 : u 7 = .bool false := hp ⟨7, .guard⟩ (by simp) rfl
              simp only [frOf, Act.put, List.setIfInBounds_toArray, List.set_cons_zero, List.set_cons_succ, Nat.zero_add, Nat.reduceAdd] at hK ⊢
              simp only [h12, h17, h7]
              first | exact trivial | (go_simp; done) | (rw [if_neg (by decide)]; trivial) | (rw [if_neg (Bool.not_eq_true _ ▸ (by kernel_rfl))]; trivial)
            · cases ho
              have h7 : u 7 = .bool false := hp ⟨7, .data⟩ (by simp) rfl
              have h18 : u 18 = undef := hp ⟨18, .data⟩ (by simp) rfl
              have h4 : u 4 = .bool false := hp ⟨4, .guard⟩ (by simp) rfl
              simp only [frOf, Act.put, List.setIfInBounds_toArray, List.set_cons_zero, List.set_cons_succ, Nat.zero_add, Nat.reduceAdd] at hK ⊢
              simp only [h7, h18, h4] at hK ⊢
              go_simp
              exact hK _ wq Pq (Sub.refl _) hHq rfl
            · cases ho
              have h4 : u 4 = .bool false := hp ⟨4, .data⟩ (by simp) rfl
              have h19 : u 19 = .bool false := hp ⟨19, .data⟩ (by simp) rfl
              simp only [frOf, Act.put, List.setIfInBounds_toArray, List.set_cons_zero, List.set_cons_succ, Nat.zero_add, Nat.reduceAdd] at hK ⊢
              simp only [h4, h19] at hK ⊢
              go_simp
              exact hK _ wq Pq (Sub.refl _) hHq rfl
            · cases ho
              have h20 : u 20 = .bool false := hp ⟨20, .data⟩ (by simp) rfl
              simp only [frOf, Act.put, List.setIfInBounds_toArray, List.set_cons_zero, List.set_cons_succ, Nat.zero_add, Nat.reduceAdd] at hK ⊢
              simp only [h20] at hK ⊢
              go_simp
              exact hK _ wq Pq (Sub.refl _) hHq rfl
            · cases ho
              have h21 : u 21 = .bool false := hp ⟨21, .guard⟩ (by simp) rfl
              simp only [frOf, Act.put, List.setIfInBounds_toArray, List.set_cons_zero, List.set_cons_succ, Nat.zero_add, Nat.reduceAdd] at hK ⊢
              simp only [h21] at hK ⊢
              go_simp
              exact hK _ wq Pq (Sub.refl _) hHq rfl
            · cases ho
              have h22 : u 22 = .bool true := hp ⟨22, .data⟩ (by simp) rfl
              have h21 : u 21 = .bool false := hp ⟨21, .guard⟩ (by simp) rfl
              simp only [frOf, Act.put, List.setIfInBounds_toArray, List.set_cons_zero, List.set_cons_succ, Nat.zero_add, Nat.reduceAdd] at hK ⊢
              simp only [h22, h21] at hK ⊢
              go_simp
              exact hK _ wq Pq (Sub.refl _) hHq rfl
            · cases ho
              have h23 : u 23 = .bool true := hp ⟨23, .guard⟩ (by simp) rfl
              simp only [frOf, Act.put, List.setIfInBounds_toArray, List.set_cons_zero, List.set_cons_succ, Nat.zero_add, Nat.reduceAdd] at hK ⊢
              simp only [h23] at hK ⊢
              go_simp
              exact hK _ wq Pq (Sub.refl _) hHq rfl
            · cases ho
              have h24 : u 24 = ptr s := hp ⟨24, .data⟩ (by simp) rfl
              have h23 : u 23 = .bool true := hp ⟨23, .guard⟩ (by simp) rfl
              simp only [frOf, Act.put, List.setIfInBounds_toArray, List.set_cons_zero, List.set_cons_succ, Nat.zero_add, Nat.reduceAdd] at hK ⊢
              simp only [h24, h23] at hK ⊢
              go_simp
              refine (end_any HG4.out HO4.out.W hHq).mono ?_
              rintro e w6 ⟨rfl, hHa⟩
              rw [show Sg.end_ ⟨d, segNm 0, 0, 10, L ++ [x], 0⟩ = en + (rN xi : Int) from HEND.out]
              exact hK _ w6 Pq (Sub.refl _) hHa rfl
            · cases ho
              have h23 : u 23 = .bool true := hp ⟨23, .guard⟩ (by simp) rfl
              simp only [frOf, Act.put, List.setIfInBounds_toArray, List.set_cons_zero, List.set_cons_succ, Nat.zero_add, Nat.reduceAdd] at hK ⊢
              simp only [h23] at hK ⊢
              obtain ⟨cw0, cw1, cw2⟩ := hHq.use (HCL.out.sub (HS4.out.trans hsq))
              go_simp
              exact hK _ wq Pq (Sub.refl _) hHq rfl
            · cases ho
              have h26 : u 26 = .agg #[.int .i64 x.b, .int .i64 x.e, .slice ra x.r.length rc] := hp ⟨26, .data⟩ (by simp) rfl
              have h23 : u 23 = .bool true := hp ⟨23, .guard⟩ (by simp) rfl
              simp only [frOf, Act.put, List.setIfInBounds_toArray, List.set_cons_zero, List.set_cons_succ, Nat.zero_add, Nat.reduceAdd] at hK ⊢
              simp only [h26, h23] at hK ⊢
              go_simp
              refine (rnext_any x (by rw [HXBB.out]; omega) (by rw [HXBB.out]; omega) (by have := HXL.out; omega) _ _ (hHq.use (HBV.out.sub (HS4.out.trans hsq)))).mono ?_
              rintro e w7 ⟨rfl, hb7⟩
              rw [show x.b + (x.r.length : Int) = en + (rN xi : Int) by rw [HXBB.out, HXL.out]]
              exact hK _ w7 Pq (Sub.refl _) (hHq.below hb7 (Nat.le_refl _)) rfl
            · cases ho
              have h25 : u 25 = .int .i64 (en + (rN xi : Int)) := hp ⟨25, .data⟩ (by simp) rfl
              have h27 : u 27 = .int .i64 (en + (rN xi : Int)) := hp ⟨27, .data⟩ (by simp) rfl
              have h23 : u 23 = .bool true := hp ⟨23, .guard⟩ (by simp) rfl
              simp only [frOf, Act.put, List.setIfInBounds_toArray, List.set_cons_zero, List.set_cons_succ, Nat.zero_add, Nat.reduceAdd] at hK ⊢
              simp only [h25, h27, h23] at hK ⊢
              go_simp
              exact hK _ wq Pq (Sub.refl _) hHq rfl
            · cases ho
              have h23 : u 23 = .bool true := hp ⟨23, .data⟩ (by simp) rfl
              have h28 : u 28 = .bool false := hp ⟨28, .data⟩ (by simp) rfl
              have h21 : u 21 = .bool false := hp ⟨21, .guard⟩ (by simp) rfl
              simp only [frOf, Act.put, List.setIfInBounds_toArray, List.set_cons_zero, List.set_cons_succ, Nat.zero_add, Nat.reduceAdd] at hK ⊢
              simp only [h23, h28, h21] at hK ⊢
              go_simp
              exact hK _ wq Pq (Sub.refl _) hHq rfl
            · cases ho
              have h21 : u 21 = .bool false := hp ⟨21, .data⟩ (by simp) rfl
              have h29 : u 29 = .bool false := hp ⟨29, .data⟩ (by simp) rfl
              simp only [frOf, Act.put, List.setIfInBounds_toArray, List.set_cons_zero, List.set_cons_succ, Nat.zero_add, Nat.reduceAdd] at hK ⊢
              simp only [h21, h29] at hK ⊢
              go_simp
              exact hK _ wq Pq (Sub.refl _) hHq rfl
            · exact absurd ho (by simp)
          · intro u wq Pq hsq hHq hR
            have h30 : u 30 = .bool false := hR 30 (by decide)
            simp only [frOf, List.setIfInBounds_toArray, List.set_cons_zero, List.set_cons_succ, Nat.zero_add, Nat.reduceAdd]
            simp only [h30]
            have Hb := Lib.hid hHq
            have HSb := Lib.hid (HS4.out.trans hsq)
            have HSq := Lib.hid hsq
            clear hR hHq hsq
            have hrel5 : FullRel P1 [] d s rn xs.length gj (.int .i64 ((k + 1 : Nat) : Int)) wq :=
              ⟨k + 1, Pq, A4, Ad4, D4, L ++ [x], by have := HK.out; omega, rfl, HSQ.out.trans HSb.out, HG4.out, HD4.out.sub HSq.out, HO4.out, HR4.out, by rw [HU4.out, HU.out, sizes_app]; simp [sizes],
                (chain_app L [x] 0 0).2 ⟨HZC.out, by rw [HXBB.out, HEN.out], by rw [HXE.out]; exact hep, trivial⟩, by rw [epOf_snoc, HXE.out]; exact Int.le_refl _, by rw [HEND.out]; omega, by rw [HEND.out]; omega, Hb.out⟩
            have HR5 := Lib.hid hrel5
            clear hrel5
            go_wp2_with fail
            go_roundg gj
            case measure => omega
            case rel => exact HR5.out
        · have i2 : ¬ (sz : Int) + (bz : Int) ≤ (rn : Int) := by omega
          have i3 : decide ((sz : Int) + (bz : Int) ≤ (rn : Int)) = false := decide_eq_false i2
          go_wp2_with fail
          refine (sappend_full HC.out HG.out HO.out HDQ.out x HXO.out HXB.out _ HBV.out HF.out (by rw [HU.out, HRM.out, HSZ.out, HBZ.out]; omega) H7.out).mono ?_
          rintro e w4 ⟨rfl, Q4, Ad4, hs4, hD4, hH8⟩
          obtain ⟨cy0, cy1, cy2⟩ := hH8.use (HCL.out.sub hs4)
          have H8 := Lib.hid hH8
          have HD4 := Lib.hid hD4
          have HS4 := Lib.hid hs4
          clear hH8 hD4 hs4 cz0 cz1 cz2
          go_wp2_with fail
          refine (rsize_any x HXO.out HXB.out _ _ (H8.out.use (HBV.out.sub HS4.out))).mono ?_
          rintro e w5 ⟨rfl, hb5⟩
          rw [HBZ.out]
          have hH9 := H8.out.below hb5 (Nat.le_refl _)
          obtain ⟨cx0, cx1, cx2⟩ := hH9.use (HCL.out.sub HS4.out)
          have H9 := Lib.hid hH9
          clear hb5 hH9 cy0 cy1 cy2
          go_wp2_with fail
          refine wp_region_hp (by kernel_rfl) (by decide) _ _ H9.out (fun i _ v => match i with | 0 => v = .iface 248 (.pointer (some (errAt W 8))) | 1 => v = .bool false | 2 => v = .bool false | 3 => v = .bool false | 4 => v = .bool false | 5 => v = .bool false | 6 => v = .bool true | 7 => v = .bool true | 8 => v = ptr s | 9 => v = .int .i64 sz | 10 => v = .int .i64 sz | 11 => v = .bool false | 12 => v = .bool false | 13 => v = ptr s | 14 => v = .int .i64 en | 15 => v = .pointer (some ⟨g, 0, none⟩) | 16 => v = .int .i64 en | 17 => v = .bool false | 18 => v = .bool false | 19 => v = .bool false | 20 => v = .bool false | 21 => v = .bool false | 22 => v = .bool false | 23 => v = .bool false | 24 => v = undef | 25 => v = undef | 26 => v = undef | 27 => v = undef | 28 => v = undef | 29 => v = .bool false | 30 => v = .bool false | _ => True) (by intro i P P' v _ h; exact h) ?_ ?_
          · intro i o ho u wq Pq hsq hHq hp K hK
            rcases i with _ | _ | _ | _ | _ | _ | _ | _ | _ | _ | _ | _ | _ | _ | _ | _ | _ | _ | _ | _ | _ | _ | _ | _ | _ | _ | _ | _ | _ | _ | _ | i
            · cases ho
              simp only [frOf, Act.put, List.setIfInBounds_toArray, List.set_cons_zero, List.set_cons_succ, Nat.zero_add, Nat.reduceAdd] at hK ⊢
              go_simp
              exact hK _ wq Pq (Sub.refl _) hHq rfl
            · cases ho
              have h0 : u 0 = .iface 248 (.pointer (some (errAt W 8))) := hp ⟨0, .data⟩ (by simp) rfl
              simp only [frOf, Act.put, List.setIfInBounds_toArray, List.set_cons_zero, List.set_cons_succ, Nat.zero_add, Nat.reduceAdd] at hK ⊢
              simp only [h0] at hK ⊢
              go_simp
              exact hK _ wq Pq (Sub.refl _) hHq rfl
            · cases ho
              simp only [frOf, Act.put, List.setIfInBounds_toArray, List.set_cons_zero, List.set_cons_succ, Nat.zero_add, Nat.reduceAdd] at hK ⊢
              go_simp
              exact hK _ wq Pq (Sub.refl _) hHq rfl
            · cases ho
              have h1 : u 1 = .bool false := hp ⟨1, .data⟩ (by simp) rfl
              have h2 : u 2 = .bool false := hp ⟨2, .data⟩ (by simp) rfl
              simp only [frOf, Act.put, List.setIfInBounds_toArray, List.set_cons_zero, List.set_cons_succ, Nat.zero_add, Nat.reduceAdd] at hK ⊢
              simp only [h1, h2] at hK ⊢
              go_simp
              exact hK _ wq Pq (Sub.refl _) hHq rfl
            · cases ho
              have h3 : u 3 = .bool false := hp ⟨3, .data⟩ (by simp) rfl
              simp only [frOf, Act.put, List.setIfInBounds_toArray, List.set_cons_zero, List.set_cons_succ, Nat.zero_add, Nat.reduceAdd] at hK ⊢
              simp only [h3] at hK ⊢
              go_simp
              exact hK _ wq Pq (Sub.refl _) hHq rfl
            · cases ho
              have h4 : u 4 = .bool false := hp ⟨4, .guard⟩ (by simp) rfl
              simp only [frOf, Act.put, List.setIfInBounds_toArray, List.set_cons_zero, List.set_cons_succ, Nat.zero_add, Nat.reduceAdd] at hK ⊢
              simp only [h4] at hK ⊢
              go_simp
              exact hK _ wq Pq (Sub.refl _) hHq rfl
            · cases ho
              have h5 : u 5 = .bool false := hp ⟨5, .data⟩ (by simp) rfl
              have h4 : u 4 = .bool false := hp ⟨4, .guard⟩ (by simp) rfl
              simp only [frOf, Act.put, List.setIfInBounds_toArray, List.set_cons_zero, List.set_cons_succ, Nat.zero_add, Nat.reduceAdd] at hK ⊢
              simp only [h5, h4] at hK ⊢
              go_simp
              exact hK _ wq Pq (Sub.refl _) hHq rfl
            · cases ho
              have h6 : u 6 = .bool true := hp ⟨6, .data⟩ (by simp) rfl
              have h4 : u 4 = .bool false := hp ⟨4, .guard⟩ (by simp) rfl
              simp only [frOf, Act.put, List.setIfInBounds_toArray, List.set_cons_zero, List.set_cons_succ, Nat.zero_add, Nat.reduceAdd] at hK ⊢
              simp only [h6, h4] at hK ⊢
              go_simp
              exact hK _ wq Pq (Sub.refl _) hHq rfl
            · cases ho
              have h7 : u 7 = .bool true := hp ⟨7, .guard⟩ (by simp) rfl
              simp only [frOf, Act.put, List.setIfInBounds_toArray, List.set_cons_zero, List.set_cons_succ, Nat.zero_add, Nat.reduceAdd] at hK ⊢
              simp only [h7] at hK ⊢
              go_simp
              exact hK _ wq Pq (Sub.refl _) hHq rfl
            · cases ho
              have h8 : u 8 = ptr s := hp ⟨8, .data⟩ (by simp) rfl
              have h7 : u 7 = .bool true := hp ⟨7, .guard⟩ (by simp) rfl
              simp only [frOf, Act.put, List.setIfInBounds_toArray, List.set_cons_zero, List.set_cons_succ, Nat.zero_add, Nat.reduceAdd] at hK ⊢
              simp only [h8, h7] at hK ⊢
              go_simp
              refine (ssize_any HG.out HO.out.W hHq).mono ?_
              rintro e w6 ⟨rfl, hHa⟩
              rw [show sizes (Sg.l ⟨d, segNm 0, 0, 10, L, 0⟩) = sz from HSZ.out]
              exact hK _ w6 Pq (Sub.refl _) hHa rfl
            · cases ho
              have h7 : u 7 = .bool true := hp ⟨7, .guard⟩ (by simp) rfl
              simp only [frOf, Act.put, List.setIfInBounds_toArray, List.set_cons_zero, List.set_cons_succ, Nat.zero_add, Nat.reduceAdd] at hK ⊢
              simp only [h7] at hK ⊢
              go_simp
              exact hK _ wq Pq (Sub.refl _) hHq rfl
            · cases ho
              have h9 : u 9 = .int .i64 sz := hp ⟨9, .data⟩ (by simp) rfl
              have h10 : u 10 = .int .i64 sz := hp ⟨10, .data⟩ (by simp) rfl
              have h7 : u 7 = .bool true := hp ⟨7, .guard⟩ (by simp) rfl
              simp only [frOf, Act.put, List.setIfInBounds_toArray, List.set_cons_zero, List.set_cons_succ, Nat.zero_add, Nat.reduceAdd] at hK ⊢
              simp only [h9, h10, h7] at hK ⊢
              go_simp
              exact hK _ wq Pq (Sub.refl _) hHq rfl
            · cases ho
              have h11 : u 11 = .bool false := hp ⟨11, .data⟩ (by simp) rfl
              have h7 : u 7 = .bool true := hp ⟨7, .guard⟩ (by simp) rfl
              simp only [frOf, Act.put, List.setIfInBounds_toArray, List.set_cons_zero, List.set_cons_succ, Nat.zero_add, Nat.reduceAdd] at hK ⊢
              simp only [h11, h7] at hK ⊢
              go_simp
              exact hK _ wq Pq (Sub.refl _) hHq rfl
            · cases ho
              have h12 : u 12 = .bool false := hp ⟨12, .guard⟩ (by simp) rfl
              simp only [frOf, Act.put, List.setIfInBounds_toArray, List.set_cons_zero, List.set_cons_succ, Nat.zero_add, Nat.reduceAdd] at hK ⊢
              simp only [h12] at hK ⊢
              go_simp
              exact hK _ wq Pq (Sub.refl _) hHq rfl
            · cases ho
              have h13 : u 13 = ptr s := hp ⟨13, .data⟩ (by simp) rfl
              have h12 : u 12 = .bool false := hp ⟨12, .guard⟩ (by simp) rfl
              simp only [frOf, Act.put, List.setIfInBounds_toArray, List.set_cons_zero, List.set_cons_succ, Nat.zero_add, Nat.reduceAdd] at hK ⊢
              simp only [h13, h12] at hK ⊢
              go_simp
              refine (end_any HG.out HO.out.W hHq).mono ?_
              rintro e w6 ⟨rfl, hHa⟩
              rw [show Sg.end_ ⟨d, segNm 0, 0, 10, L, 0⟩ = en from HEN.out]
              exact hK _ w6 Pq (Sub.refl _) hHa rfl
            · cases ho
              have h12 : u 12 = .bool false := hp ⟨12, .guard⟩ (by simp) rfl
              simp only [frOf, Act.put, List.setIfInBounds_toArray, List.set_cons_zero, List.set_cons_succ, Nat.zero_add, Nat.reduceAdd] at hK ⊢
              simp only [h12] at hK ⊢
              go_simp
              exact hK _ wq Pq (Sub.refl _) hHq rfl
            · cases ho
              have h15 : u 15 = .pointer (some ⟨g, 0, none⟩) := hp ⟨15, .data⟩ (by simp) rfl
              have h12 : u 12 = .bool false := hp ⟨12, .guard⟩ (by simp) rfl
              simp only [frOf, Act.put, List.setIfInBounds_toArray, List.set_cons_zero, List.set_cons_succ, Nat.zero_add, Nat.reduceAdd] at hK ⊢
              simp only [h15, h12] at hK ⊢
              obtain ⟨cw0, cw1, cw2⟩ := hHq.use (HCL.out.sub (HS4.out.trans hsq))
              rw [HXBB.out] at cw0
              go_simp
              exact hK _ wq Pq (Sub.refl _) hHq rfl
            · cases ho
              have h14 : u 14 = .int .i64 en := hp ⟨14, .data⟩ (by simp) rfl
              have h16 : u 16 = .int .i64 en := hp ⟨16, .data⟩ (by simp) rfl
              have h12 : u 12 = .bool false := hp ⟨12, .guard⟩ (by simp) rfl
              simp only [frOf, Act.put, List.setIfInBounds_toArray, List.set_cons_zero, List.set_cons_succ, Nat.zero_add, Nat.reduceAdd] at hK ⊢
              simp only [h14, h16, h12] at hK ⊢
              go_simp
              exact hK _ wq Pq (Sub.refl _) hHq rfl
            · cases ho
              have h12 : u 12 = .bool false := hp ⟨12, .data⟩ (by simp) rfl
              have h17 : u 17 = .bool false := hp ⟨17, .data⟩ (by simp) rfl
              have h7 : u 7 = .bool true := hp ⟨7, .guard⟩ (by simp) rfl
              simp only [frOf, Act.put, List.setIfInBounds_toArray, List.set_cons_zero, List.set_cons_succ, Nat.zero_add, Nat.reduceAdd] at hK ⊢
              simp only [h12, h17, h7] at hK ⊢
              go_simp
              exact hK _ wq Pq (Sub.refl _) hHq rfl
            · cases ho
              have h7 : u 7 = .bool true := hp ⟨7, .data⟩ (by simp) rfl
              have h18 : u 18 = .bool false := hp ⟨18, .data⟩ (by simp) rfl
              have h4 : u 4 = .bool false := hp ⟨4, .guard⟩ (by simp) rfl
              simp only [frOf, Act.put, List.setIfInBounds_toArray, List.set_cons_zero, List.set_cons_succ, Nat.zero_add, Nat.reduceAdd] at hK ⊢
              simp only [h7, h18, h4] at hK ⊢
              go_simp
              exact hK _ wq Pq (Sub.refl _) hHq rfl
            · cases ho
              have h4 : u 4 = .bool false := hp ⟨4, .data⟩ (by simp) rfl
              have h19 : u 19 = .bool false := hp ⟨19, .data⟩ (by simp) rfl
              simp only [frOf, Act.put, List.setIfInBounds_toArray, List.set_cons_zero, List.set_cons_succ, Nat.zero_add, Nat.reduceAdd] at hK ⊢
              simp only [h4, h19] at hK ⊢
              go_simp
              exact hK _ wq Pq (Sub.refl _) hHq rfl
            · cases ho
              have h20 : u 20 = .bool false := hp ⟨20, .data⟩ (by simp) rfl
              simp only [frOf, Act.put, List.setIfInBounds_toArray, List.set_cons_zero, List.set_cons_succ, Nat.zero_add, Nat.reduceAdd] at hK ⊢
              simp only [h20] at hK ⊢
              go_simp
              exact hK _ wq Pq (Sub.refl _) hHq rfl
            · cases ho
              have h21 : u 21 = .bool false := hp ⟨21, .guard⟩ (by simp) rfl
              simp only [frOf, Act.put, List.setIfInBounds_toArray, List.set_cons_zero, List.set_cons_succ, Nat.zero_add, Nat.reduceAdd] at hK ⊢
              simp only [h21] at hK ⊢
              go_simp
              exact hK _ wq Pq (Sub.refl _) hHq rfl
            · cases ho
              have h22 : u 22 = .bool false := hp ⟨22, .data⟩ (by simp) rfl
              have h21 : u 21 = .bool false := hp ⟨21, .guard⟩ (by simp) rfl
              simp only [frOf, Act.put, List.setIfInBounds_toArray, List.set_cons_zero, List.set_cons_succ, Nat.zero_add, Nat.reduceAdd] at hK ⊢
              simp only [h22, h21] at hK ⊢
              go_simp
              exact hK _ wq Pq (Sub.refl _) hHq rfl
            · cases ho
              have h23 : u 23 = .bool false := hp ⟨23, .guard⟩ (by simp) rfl
              simp only [frOf, Act.put, List.setIfInBounds_toArray, List.set_cons_zero, List.set_cons_succ, Nat.zero_add, Nat.reduceAdd] at hK ⊢
              simp only [h23]
              first | exact trivial | (go_simp; done) | (rw [if_neg (by decide)]; trivial) | (rw [if_neg (Bool.not_eq_true _ ▸ (by kernel_rfl))]; trivial)
            · cases ho
              have h24 : u 24 = undef := hp ⟨24, .data⟩ (by simp) rfl
              have h23 : u 23 = .bool false := hp ⟨23, .guard⟩ (by simp) rfl
              simp only [frOf, Act.put, List.setIfInBounds_toArray, List.set_cons_zero, List.set_cons_succ, Nat.zero_add, Nat.reduceAdd] at hK ⊢
              simp only [h24, h23]
              first | exact trivial | (go_simp; done) | (rw [if_neg (by decide)]; trivial) | (rw [if_neg (Bool.not_eq_true _ ▸ (by kernel_rfl))]; trivial)
            · cases ho
              have h23 : u 23 = .bool false := hp ⟨23, .guard⟩ (by simp) rfl
              simp only [frOf, Act.put, List.setIfInBounds_toArray, List.set_cons_zero, List.set_cons_succ, Nat.zero_add, Nat.reduceAdd] at hK ⊢
              simp only [h23]
              first | exact trivial | (go_simp; done) | (rw [if_neg (by decide)]; trivial) | (rw [if_neg (Bool.not_eq_true _ ▸ (by kernel_rfl))]; trivial)
            · cases ho
              have h26 : u 26 = undef := hp ⟨26, .data⟩ (by simp) rfl
              have h23 : u 23 = .bool false := hp ⟨23, .guard⟩ (by simp) rfl
              simp only [frOf, Act.put, List.setIfInBounds_toArray, List.set_cons_zero, List.set_cons_succ, Nat.zero_add, Nat.reduceAdd] at hK ⊢
              simp only [h26, h23]
              first | exact trivial | (go_simp; done) | (rw [if_neg (by decide)]; trivial) | (rw [if_neg (Bool.not_eq_true _ ▸ (by kernel_rfl))]; trivial)
            · cases ho
              have h25 : u 25 = undef := hp ⟨25, .data⟩ (by simp) rfl
              have h27 : u 27 = undef := hp ⟨27, .data⟩ (by simp) rfl
              have h23 : u 23 = .bool false := hp ⟨23, .guard⟩ (by simp) rfl
              simp only [frOf, Act.put, List.setIfInBounds_toArray, List.set_cons_zero, List.set_cons_succ, Nat.zero_add, Nat.reduceAdd] at hK ⊢
              simp only [h25, h27, h23]
              first | exact trivial | (go_simp; done) | (rw [if_neg (by decide)]; trivial) | (rw [if_neg (Bool.not_eq_true _ ▸ (by kernel_rfl))]; trivial)
            · cases ho
              have h23 : u 23 = .bool false := hp ⟨23, .data⟩ (by simp) rfl
              have h28 : u 28 = undef := hp ⟨28, .data⟩ (by simp) rfl
              have h21 : u 21 = .bool false := hp ⟨21, .guard⟩ (by simp) rfl
              simp only [frOf, Act.put, List.setIfInBounds_toArray, List.set_cons_zero, List.set_cons_succ, Nat.zero_add, Nat.reduceAdd] at hK ⊢
              simp only [h23, h28, h21] at hK ⊢
              go_simp
              exact hK _ wq Pq (Sub.refl _) hHq rfl
            · cases ho
              have h21 : u 21 = .bool false := hp ⟨21, .data⟩ (by simp) rfl
              have h29 : u 29 = .bool false := hp ⟨29, .data⟩ (by simp) rfl
              simp only [frOf, Act.put, List.setIfInBounds_toArray, List.set_cons_zero, List.set_cons_succ, Nat.zero_add, Nat.reduceAdd] at hK ⊢
              simp only [h21, h29] at hK ⊢
              go_simp
              exact hK _ wq Pq (Sub.refl _) hHq rfl
            · exact absurd ho (by simp)
          · intro u wq Pq hsq hHq hR
            have h30 : u 30 = .bool false := hR 30 (by decide)
            simp only [frOf, List.setIfInBounds_toArray, List.set_cons_zero, List.set_cons_succ, Nat.zero_add, Nat.reduceAdd]
            simp only [h30]
            have Hb := Lib.hid hHq
            have HSb := Lib.hid (HS4.out.trans hsq)
            have HSq := Lib.hid hsq
            clear hR hHq hsq
            have hrel5 : FullRel P1 [] d s rn xs.length gj (.int .i64 ((k + 1 : Nat) : Int)) wq :=
              ⟨k + 1, Pq, A, Ad4, D, L, by have := HK.out; omega, rfl, HSQ.out.trans HSb.out, HG.out, HD4.out.sub HSq.out, HO.out, HRM.out, HU.out, HZC.out, hep, by rw [HEN.out]; exact he1', by rw [HEN.out]; omega, Hb.out⟩
            have HR5 := Lib.hid hrel5
            clear hrel5
            go_wp2_with fail
            go_roundg gj
            case measure => omega
            case rel => exact HR5.out
      
    · obtain rfl : k = xs.length := by omega
      have j1 : ¬ (xs.length : Int) < (xs.length : Int) := by omega
      obtain ⟨en, hen⟩ : ∃ en, endOf 0 L = en := ⟨_, rfl⟩
      have HEN := Lib.hid hen
      have HR := Lib.hid hHr
      have HD := Lib.hid hD
      have HO := Lib.hid hO
      have HG := Lib.hid hG
      have HZC := Lib.hid hch
      obtain ⟨sz, hsz⟩ : ∃ sz, sizes L = sz := ⟨_, rfl⟩
      have HSZ := Lib.hid hsz
      clear hen hHr hD hO hG hch hsz hused hroom hep he1 he2
      go_wp2_with fail
      refine (sopen_on (C.sub (HS1.out.trans hs2)) HD.out 0 10 (by decide) (by decide) L 0 HO.out HZC.out (Hp.mid HR.out)).mono ?_
      rintro e w5 ⟨s5, P5, As, A5, D5, rfl, hs5, hG5, hD5, hO5, -, -, -, hH5⟩
      have H5 := Lib.hid hH5
      have HG5 := Lib.hid hG5
      have HO5 := Lib.hid hO5
      have HS5 := Lib.hid (HS1.out.trans (hs2.trans hs5))
      clear hH5 hG5 hO5 hD5 hs5
      go_wp2_with fail
      refine (end_any HG5.out HO5.out.W H5.out).mono ?_
      rintro e w6 ⟨rfl, hH6⟩
      rw [show Sg.end_ ⟨d, segNm 0, 0, 10, L, sizes L⟩ = en from HEN.out]
      have H6 := Lib.hid (Hp.mid hH6.as2)
      clear hH6
      go_wp2_with fail
      refine (end_any HG.out HO.out.W H6.out).mono ?_
      rintro e w7 ⟨rfl, hH7⟩
      rw [show Sg.end_ ⟨d, segNm 0, 0, 10, L, 0⟩ = en from HEN.out]
      have H7 := Lib.hid (Hp.mid hH7).as3
      clear hH7
      go_wp2_with fail
      refine (ssize_any HG5.out HO5.out.W H7.out).mono ?_
      rintro e w8 ⟨rfl, hH8⟩
      rw [show sizes (Sg.l ⟨d, segNm 0, 0, 10, L, sizes L⟩) = sz from HSZ.out]
      have H8 := Lib.hid (Hp.mid hH8.as2)
      clear hH8
      go_wp2_with fail
      refine (ssize_any HG.out HO.out.W H8.out).mono ?_
      rintro e w9 ⟨rfl, hH9⟩
      rw [show sizes (Sg.l ⟨d, segNm 0, 0, 10, L, 0⟩) = sz from HSZ.out]
      have HB := Lib.hid (hH9.to_below HS5.out)
      clear hH9
      go_wp2_with fail
      go_ret
      exact ⟨rfl, HB.out⟩
end
end Go.Proofs.YtlkkagjpapjehaaGreatDoor.Sg

/-! SegFullRow -/
namespace Go.Proofs.YtlkkagjpapjehaaGreatDoor.segFull
open Go.ChangeShapes Go.WideShapes Go.ChangeAt Go.RowKit
open Go.Proofs.YtlkkagjpapjehaaGreatDoor.Sg
set_option linter.unusedVariables false

theorem own : ownKnob Tryz.prog.godebug = none := by kernel_rfl
theorem laidOut : laidOutB Tryz.prog = true := by kernel_rfl

theorem door_met (os : Os) (args : Array Value) : laidMetH Tryz.prog Rows.segFullRow.laid ((World.doorLaid Tryz.prog 400 os).forCall (fun _ _ => 0) ⟨#[], args, []⟩).memory :=
  laidMetH_of_parts3 (fuel := 8) (laidMet_of_run' 8 (by kernel_rfl) (by kernel_rfl)) (by kernel_rfl) (by kernel_rfl)

theorem reads (os : Os) {H : Type} (enc : TypeId × Value → H) : ∃ places, DataW.whole enc Tryz.prog ((World.doorLaid Tryz.prog 400 os).forCall (fun _ _ => 0) ⟨#[], #[.int .i64 0, .slice none 0 0], []⟩).memory Tryz.f7.params.toList Rows.segFullSpec.vars false (#[.int .i64 0, .slice none 0 0] : Array Value).toList 8 = some ([.lit (.int .i64 0), .nil], [], places) :=
  ⟨[], by kernel_rfl⟩

set_option maxRecDepth 100000 in
theorem contract (H : Type) (enc : TypeId × Value → H) (W : World) (base : Nat) (args : Array Value) (ds gs : List (DataW H)) (before : List MemPlace)
    (hval0 : ∀ (j : Nat) t v, Tryz.f7.params[j]? = some t → args[j]? = some v → Value.okWide Tryz.prog W .any base t v)
    (hW : DataW.Whole enc Tryz.prog Tryz.f7.params.toList Rows.segFullSpec.vars false W args.toList ds gs before) (hL : laidMetH Tryz.prog Rows.segFullRow.laid W) (hsh : W.ShapedOpen Tryz.prog) :
    Calls Tryz.prog 7 args W fun e W' => ∃ v, e = .returned v ∧ Rows.segFullSpec.post enc Tryz.prog Tryz.f7 false true false false W args v W' := by
  have hval : ∀ (j : Nat) t v, Tryz.f7.params[j]? = some t → args[j]? = some v → Value.okWide Tryz.prog W .any base t v := hval0
  have hW' := hW
  obtain ⟨p, q, hA0, hV, rfl, hfz, hnd⟩ := hW
  have hA : DataW.TrodAll enc Tryz.prog W 0 (fun _ => true) true Tryz.f7.params.toList args.toList ds p := hA0
  rw [Tryz.params7] at hA hval
  obtain ⟨v0, vs0, d0, ds0, p0, q0, hargs, rfl, rfl, h0, r0⟩ := trodAll_cons hA
  obtain ⟨v1, vs1, d1, ds1, p1, q1, rfl, rfl, rfl, h1, r1⟩ := trodAll_cons r0
  obtain ⟨rfl, rfl, rfl⟩ := trodAll_nil r1
  obtain rfl : args = #[v0, v1] := by cases args; simp_all
  obtain ⟨rfl, rfl⟩ := trodVars_none hV
  obtain ⟨a0, rfl, rfl, rfl, w0⟩ := open_int Tryz.underlying3 (hval 0 3 v0 rfl rfl) h0
  obtain ⟨a1, len1, cap1, rfl⟩ := okWide_slice Tryz.underlying22 (hval 1 22 v1 rfl rfl)
  have k1 := h1
  have lt1 : ∀ x ∈ p1, x.block < W.heap.size := by obtain ⟨m, hm⟩ := k1; exact DataW.trod_lt m _ _ _ hm
  obtain ⟨z1, w1⟩ : ∃ zs, IsRow W a1 len1 cap1 zs := by
    obtain ⟨fuel, hf⟩ := h1
    rcases open_ints Tryz.underlying22 Tryz.underlying3 (by kernel_rfl) hf with ⟨hcs, _⟩ | ⟨x, l, c, zs, hcs, _, hl, hm, hz, _, hcell, hwz⟩
    · simp [Value.cells] at hcs
      obtain ⟨rfl, rfl, rfl⟩ := hcs
      exact ⟨[], .inl ⟨rfl, rfl, rfl, rfl⟩⟩
    · simp [Value.cells] at hcs
      obtain ⟨rfl, rfl, rfl⟩ := hcs
      exact ⟨zs, .inr ⟨_, rfl, hl, hm, by simpa using hz, hcell, hwz⟩⟩
  have hL0 := hL
  rw [MakeChecks.laidMetH_plain _ _ _ (by kernel_rfl)] at hL0
  obtain ⟨hT, hE⟩ := laid11 (W := W) hL0 (Er.gmax_le hsh)
  clear hA0 hval0
  refine (full_all a0 a1 len1 cap1 z1 W w1 l11_all hE hT).mono fun e W' ⟨he, bel⟩ => ?_
  subst he
  exact ⟨_, rfl, _, _, _, [], _, [], hW', trodAll_mk1 (shut_bool Tryz.underlying4 _), (trodAll_cons_mk (shut_int Tryz.underlying3 w0) (trodAll_cons_mk (Below.trod laidOut (by kernel_rfl) (of_decide_eq_true (by kernel_rfl)) k1 bel lt1) trodAll_mk0)), rfl, bel.frame _, fun h => by cases h⟩

set_option maxRecDepth 100000 in
theorem lifted (os : Os) (started : os.Started) (H : Type) (enc : TypeId × Value → H) (F : Stop.Interp) :
    ReturnsInHanded {} Tryz.checked os 7 .any ((OpenSpec.ofChange Rows.segFullSpec).preRow enc Tryz.prog Tryz.f7 Rows.segFullRow.domain false Rows.segFullRow.laid) (((OpenSpec.ofChange Rows.segFullSpec).at F).post enc Tryz.prog Tryz.f7 false true false false) := by
  obtain ⟨places, hx⟩ := reads os enc
  refine returnsInHanded_of_row (C := Tryz.checked) (s := OpenSpec.ofChange Rows.segFullSpec) own started (by kernel_rfl) Tryz.func7
    (witness_row_atRef (enc := enc) (C := Tryz.checked) false (World.doorLaid Tryz.prog 400 os) #[.int .i64 0, .slice none 0 0] rfl (by kernel_rfl) (by kernel_rfl) (by kernel_rfl)
      (OpenSpec.preRow_of_cond 8 hx (by kernel_rfl) (fun k hk => by cases hk) (by kernel_rfl) (door_met os _))) ?_
  intro W base args ds gs before hval hW _ _ _ hL hsh _
  exact contract H enc W base args ds gs before hval hW hL hsh

theorem said : Rows.SegFullSaid :=
  OpenClaim.holds_of_cond 7 Tryz.f7 rfl rfl rfl rfl rfl rfl rfl ⟨rfl, rfl, rfl, rfl, rfl⟩ rfl rfl rfl rfl rfl (by kernel_rfl) Tryz.func7 (by kernel_rfl)
    (of_decide_eq_true (by kernel_rfl)) (by unfold Func.isWrapper; rw [if_neg (of_decide_eq_false (by kernel_rfl))]; exact ⟨rfl, rfl⟩)
    (fun os started H enc _ F => by rw [OpenClaim.pre_eq_preRow]; exact lifted os started H enc F)

theorem plain (f : FuncId) (fn : Func) (hf : Tryz.pinned.checked.prog.funcNamed "cordwood/cordwoodlaw7.SegFull" = some f) (hfn : Tryz.pinned.checked.prog.funcs[f]? = some fn) :
    true = Tryz.pinned.checked.prog.looks [] ∧ ∀ (j : Nat) t, fn.params[j]? = some t → Tryz.pinned.checked.prog.wantsStandIn t = false := by
  obtain rfl : f = 7 := Option.some.inj ((show Tryz.prog.funcNamed "cordwood/cordwoodlaw7.SegFull" = some 7 by kernel_rfl).symm.trans hf) |>.symm
  obtain rfl : fn = Tryz.f7 := (Option.some.inj (Tryz.func7.symm.trans hfn)).symm
  refine ⟨by kernel_rfl, fun j t ht => ?_⟩
  rw [Tryz.params7] at ht
  have hm := Array.mem_of_getElem? ht
  have ht2 : t = 3 ∨ t = 22 := by simpa using hm
  rcases ht2 with rfl | rfl
  · exact (show Tryz.prog.wantsStandIn 3 = false by kernel_rfl)
  · exact (show Tryz.prog.wantsStandIn 22 = false by kernel_rfl)

/-- THE CARD -/
theorem card : Rows.SegFullCardSaid :=
  Claim7.holds_tied_plain_at .later [] _ _ _ _ said (fun _ h => by cases h) (by kernel_rfl) (fun _ h => by cases h) segFull_row_tie rfl ⟨rfl, rfl⟩ (by kernel_rfl) rfl plain (by kernel_rfl)
#print axioms card
end Go.Proofs.YtlkkagjpapjehaaGreatDoor.segFull
