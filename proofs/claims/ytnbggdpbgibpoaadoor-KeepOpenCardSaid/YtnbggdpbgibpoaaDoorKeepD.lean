/- The contract of keep.Start over fair segments. -/
import Derived.Test.YtnbggdpbgibpoaaDoorKeepC
import Derived.Deep.RegionHeld3
import Derived.Deep.LoopGhost
import Derived.Deep.CutRange
import Derived.Deep.DeepCutAuto
import Derived.Deep.CutBlock
namespace Go.Proofs.YtnbggdpbgibpoaaDoor.Kp
open Go.RowKit

def muchB (tot : Int) (l : List Sg) : Bool := tot != -1 && decide (tot < sumZ l)
def oldB (age now t : Int) : Bool := age != -1 && decide (t + age < now)

/-- Where a log starts: by the rules Total, Age. -/
def startP (tot age now : Int) (start : Int) : List Sg → Int
  | [] => start
  | x :: l => if l = [] then start else if x.s = false then start
    else if muchB tot (x :: l) = false ∧ oldB age now x.t = false then start else startP tot age now (max start x.e) l

theorem ret2_int {k : IntKind} {a b : Int} {v : Value} (h : a = b) : Ending.returned (.tuple #[.int k a, v]) = .returned (.tuple #[.int k b, v]) := by rw [h]

theorem KFair.zs {L : List Sg} (h : KFair L) : ∀ x ∈ L, 0 ≤ x.z ∧ x.z ≤ 1099511627776 := fun x hx => by
  have := h.ok x hx
  unfold Sg.ok at this
  omega

set_option maxHeartbeats 800000 in
theorem start_yes (loc tot age now start : Int) (g off cap : Nat) (L : List Sg) (w : World) (hn : L.length ≤ 1000) (hc : L.length ≤ cap) (hg : g < w.heap.size) (hat : SegsAt w g off L) (hf : KFair L)
    (a0 : -1 ≤ loc) (a1 : loc ≤ 1125899906842624) (b0 : -1 ≤ tot) (b1 : tot ≤ 1125899906842624) (c0 : -1 ≤ age) (c1 : age ≤ 1125899906842624)
    (n0 : -1099511627776 ≤ now) (n1 : now ≤ 1099511627776) (s0 : 0 ≤ start) (s1 : start ≤ 1099511627776) :
    Calls Tryd.prog 12 #[.agg #[.int .i64 loc, .int .i64 tot, .int .i64 age], .int .i64 now, .int .i64 start, .slice (some ⟨g, off, none⟩) L.length cap] w
      fun e w' => e = .returned (.tuple #[.int .i64 (startP tot age now start L), .nilIface]) ∧ Below w.heap.size w w' := by
  go_enter Tryd.func12, Tryd.ntmps12
  go_wp2_with fail
  go_step3
  go_wp2_with fail
  refine (valid_yes _ _ _ _ a0 a1 b0 b1 c0 c1).mono ?_
  rintro e w1 ⟨rfl, hb1⟩
  have r0 := (hb1.cell (p := ⟨w.heap.size, 0, none⟩) (by simp)).trans (show _ = some (Value.int .i64 loc) by go_simp)
  have r1 := (hb1.cell (p := ⟨w.heap.size, 1, none⟩) (by simp)).trans (show _ = some (Value.int .i64 tot) by go_simp)
  have r2 := (hb1.cell (p := ⟨w.heap.size, 2, none⟩) (by simp)).trans (show _ = some (Value.int .i64 age) by go_simp)
  have hw1 : w.heap.size < w1.heap.size := by have := hb1.size; simp at this; omega
  have hbw : Below w.heap.size w w1 := ((Below.refl _ _).alloc (Nat.le_refl _) _).trans (hb1.mono (by simp))
  clear hb1
  go_wp2_with (first | (go_at_call 19; refine (offset_yes _ _ (by assumption) (by assumption)).mono ?_; rintro e w' ⟨rfl, rfl⟩) | (go_at_call 18; refine (time_yes _ _ (by assumption) (by assumption)).mono ?_; rintro e w' ⟨rfl, rfl⟩))
  refine (fair_yes g off cap L _ hn (by omega) (hat.below hbw hg) hf).mono ?_
  rintro e w2 ⟨rfl, hb2⟩
  replace r0 := (hb2.cell (p := ⟨w.heap.size, 0, none⟩) (by simp; omega)).trans r0
  replace r1 := (hb2.cell (p := ⟨w.heap.size, 1, none⟩) (by simp; omega)).trans r1
  replace r2 := (hb2.cell (p := ⟨w.heap.size, 2, none⟩) (by simp; omega)).trans r2
  have hw2 : w.heap.size < w2.heap.size := by have := hb2.size; omega
  replace hbw := hbw.trans (hb2.mono (by omega))
  clear hb2 hw1
  go_wp2_with fail
  go_step3
  go_wp2_with fail
  go_loopg [2, 38] L.length (fun r st i wr => ∃ (k : Nat) (s : Int), k + r = L.length ∧ i = .int .i64 k ∧ st = .int .i64 s ∧ 0 ≤ s ∧ s ≤ 1099511627776 ∧ startP tot age now s (L.drop k) = startP tot age now start L ∧ w2.heap.size ≤ wr.heap.size ∧ Below w2.heap.size w2 wr)
  case atStart => exact ⟨0, start, by omega, rfl, rfl, s0, s1, rfl, Nat.le_refl _, Below.refl _ _⟩
  case round =>
    obtain ⟨k, s, hk, rfl, rfl, hs0, hs1, hP, hsz, hb⟩ := hrel
    by_cases hlt : k < L.length
    · obtain ⟨x, hx⟩ : ∃ x, L[k]? = some x := ⟨_, List.getElem?_eq_getElem hlt⟩
      obtain ⟨x0, x1, x2, x3, x4, x5, x6⟩ := ((hat.below hbw hg) k x hx).below hb (by omega)
      obtain ⟨q0, q1, q2, q3, q4, q5, q6, q7⟩ := hf.ok x (List.mem_of_getElem? hx)
      replace r1 := (hb.cell (p := ⟨w.heap.size, 1, none⟩) (by simp; omega)).trans r1
      replace r2 := (hb.cell (p := ⟨w.heap.size, 2, none⟩) (by simp; omega)).trans r2
      have hdr : L.drop k = x :: L.drop (k + 1) := by rw [List.drop_eq_getElem_cons hlt]; congr 1; exact Option.some.inj ((List.getElem?_eq_getElem hlt).symm.trans hx)
      have HP := Lib.hid hP
      have HX := Lib.hid hx
      have HD := Lib.hid hdr
      have HAT := Lib.hid hat
      have hwr : w.heap.size < wr.heap.size := by omega
      clear hP hx hdr hat r0
      go_upto_region 13 with fail
      go_cut [15] (fun m wx => m = .bool (muchB tot (L.drop k)) ∧ wr.heap.size < wx.heap.size ∧ Below (wr.heap.size + 1) (wr.alloc (.cells #[.int .i64 x.b, .int .i64 x.e, .int .i64 x.z, .int .i64 x.t, .bool x.s, .bool x.h, .bool x.r] 34)) wx)
      case first =>
        by_cases ht : tot = -1
        · have e1 : (tot != -1) = false := by simpa using ht
          have E : Hid (muchB tot (L.drop k) = false) := by show muchB tot (L.drop k) = false; simp [muchB, ht]
          clear ht
          go_quiet (fail)
          go_wp2_with fail
          go_meet
          exact ⟨by rw [E.out], by simp, below_drewN (Below.refl _ _) _⟩
        · have e1 : (tot != -1) = true := by simpa using ht
          have E : Hid (muchB tot (L.drop k) = decide (tot < sumZ (L.drop k))) := by show muchB tot (L.drop k) = _; simp [muchB, ht]
          clear ht
          have i0 : (0 : Int) ≤ (k : Int) := by omega
          have i1 : (k : Int) ≤ (L.length : Int) := by omega
          have i2 : (L.length : Int) ≤ (cap : Int) := by omega
          have i3 : ¬ cap = k := by omega
          have HS : ∀ wz, Below wr.heap.size wr wz → SegsAt wz g off L := fun wz hz => ((HAT.out.below hbw hg).below hb (by omega)).below hz (by omega)
          have HS := Lib.hid HS
          go_region_held3 (fun w' => w'.cell? ⟨w.heap.size, 1, none⟩ = some (.int .i64 tot)) (first | go_keep | exact (hb3.cell (p := ⟨w.heap.size, 1, none⟩) (by simp; omega)).trans (by assumption))
            (first
              | (with_reducible refine (sum_all_from g off (cap - k) L.length k L _ rfl hn ?_ ?_ hf.zs).mono ?_
                 · simp; omega
                 · exact HS.out _ (((Below.refl _ _).alloc (Nat.le_refl _) _).drew)
                 rintro e w3 ⟨rfl, hb3⟩))
          go_wp2_with fail
          go_meet
          exact ⟨by rw [E.out], by have := hb3.size; simp at this; omega, (Below.refl _ _).drew.trans (hb3.mono (by simp))⟩
      case rest =>
        obtain ⟨rfl, hsz2, hb2⟩ := hcut
        have r2' := (hb2.cell (p := ⟨w.heap.size, 2, none⟩) (by simp; omega)).trans (show _ = some (Value.int .i64 age) by go_simp)
        have y1 := (hb2.cell (p := ⟨wr.heap.size, 1, none⟩) (by simp)).trans (show _ = some (Value.int .i64 x.e) by go_simp)
        have y3 := (hb2.cell (p := ⟨wr.heap.size, 3, none⟩) (by simp)).trans (show _ = some (Value.int .i64 x.t) by go_simp)
        have y4 := (hb2.cell (p := ⟨wr.heap.size, 4, none⟩) (by simp)).trans (show _ = some (Value.bool x.s) by go_simp)
        obtain ⟨M, hM⟩ : ∃ M, muchB tot (L.drop k) = M := ⟨_, rfl⟩
        rw [hM]
        have HM := Lib.hid hM
        clear hM r1 r2 x0 x1 x2 x3 x4 x5 x6
        go_upto_region 14 with fail
        go_cut [16] (fun m wx => m = .bool (oldB age now x.t) ∧ wx = wc)
        case first =>
          by_cases ht : age = -1
          · have e1 : (age != -1) = false := by simpa using ht
            have E : Hid (oldB age now x.t = false) := by show oldB age now x.t = false; simp [oldB, ht]
            clear ht
            go_wp2_with fail
            go_meet
            exact ⟨by rw [E.out], rfl⟩
          · have e1 : (age != -1) = true := by simpa using ht
            have E : Hid (oldB age now x.t = decide (x.t + age < now)) := by show oldB age now x.t = _; simp [oldB, ht]
            clear ht
            go_wp2_with fail
            go_meet
            exact ⟨by rw [E.out], rfl⟩
        case rest =>
          obtain ⟨rfl, rfl⟩ := hcut
          obtain ⟨O, hO⟩ : ∃ O, oldB age now x.t = O := ⟨_, rfl⟩
          rw [hO]
          have HO := Lib.hid hO
          clear hO
          by_cases hl : k + 1 = L.length
          · have HF : Hid (startP tot age now s (L.drop k) = s) := by
              show startP tot age now s (L.drop k) = s
              rw [HD.out, startP, if_pos (by simp; omega)]
            have e2 : ((k : Int) == (L.length : Int) - 1) = true := by simp; omega
            go_wp2_with fail
            (try rw [Exit.noGoto_ret])
            go_ret2
            exact ⟨ret2_int (by rw [← HP.out, HF.out]), (hbw.trans (hb.mono (by omega))).trans (((Below.refl _ _).alloc (by omega) _).trans (hb2.mono (by omega)))⟩
          · have e2 : ((k : Int) == (L.length : Int) - 1) = false := by simp; omega
            have hne : L.drop (k + 1) ≠ [] := by simp; omega
            cases hs : x.s
            · have HF : Hid (startP tot age now s (L.drop k) = s) := by
                show startP tot age now s (L.drop k) = s
                rw [HD.out, startP, if_neg hne, if_pos hs]
              clear hne
              go_wp2_with fail
              (try rw [Exit.noGoto_ret])
              go_ret2
              exact ⟨ret2_int (by rw [← HP.out, HF.out]), (hbw.trans (hb.mono (by omega))).trans (((Below.refl _ _).alloc (by omega) _).trans (hb2.mono (by omega)))⟩
            · by_cases hmo : M = false ∧ O = false
              · have HF : Hid (startP tot age now s (L.drop k) = s) := by
                  show startP tot age now s (L.drop k) = s
                  have h1 := HM.out; have h2 := HO.out
                  rw [HD.out] at h1
                  rw [HD.out, startP, if_neg hne, if_neg (by rw [hs]; decide), if_pos ⟨h1.trans hmo.1, h2.trans hmo.2⟩]
                obtain ⟨rfl, rfl⟩ := hmo
                clear hne
                go_wp2_with fail
                (try rw [Exit.noGoto_ret])
                go_ret2
                exact ⟨ret2_int (by rw [← HP.out, HF.out]), (hbw.trans (hb.mono (by omega))).trans (((Below.refl _ _).alloc (by omega) _).trans (hb2.mono (by omega)))⟩
              · have HF : Hid (startP tot age now s (L.drop k) = startP tot age now (max s x.e) (L.drop (k + 1))) := by
                  show startP tot age now s (L.drop k) = _
                  have h1 := HM.out; have h2 := HO.out
                  rw [HD.out] at h1
                  rw [HD.out, startP, if_neg hne, if_neg (by rw [hs]; decide), if_neg (fun h => hmo ⟨h1.symm.trans h.1, h2.symm.trans h.2⟩)]
                obtain ⟨gk, rfl⟩ : ∃ m, gk = m + 1 := ⟨gk - 1, by omega⟩
                rcases Int.lt_or_le s x.e with hse | hse
                · have HF2 : Hid (startP tot age now s (L.drop k) = startP tot age now x.e (L.drop (k + 1))) := by
                    show startP tot age now s (L.drop k) = _
                    rw [HF.out, Int.max_eq_right (by omega)]
                  cases M
                  · cases O
                    · exact absurd ⟨rfl, rfl⟩ hmo
                    · clear hne hmo
                      go_wp2_with fail
                      go_roundg gk
                      case measure => omega
                      case rel => exact ⟨k + 1, x.e, by omega, by go_num, rfl, by omega, by omega, by rw [← HF2.out, HP.out], by have := hb2.size; simp at this; omega, hb.trans (((Below.refl _ _).alloc (by omega) _).trans (hb2.mono (by omega)))⟩
                  · clear hne hmo
                    go_wp2_with fail
                    go_roundg gk
                    case measure => omega
                    case rel => exact ⟨k + 1, x.e, by omega, by go_num, rfl, by omega, by omega, by rw [← HF2.out, HP.out], by have := hb2.size; simp at this; omega, hb.trans (((Below.refl _ _).alloc (by omega) _).trans (hb2.mono (by omega)))⟩
                · have HF2 : Hid (startP tot age now s (L.drop k) = startP tot age now s (L.drop (k + 1))) := by
                    show startP tot age now s (L.drop k) = _
                    rw [HF.out, Int.max_eq_left hse]
                  cases M
                  · cases O
                    · exact absurd ⟨rfl, rfl⟩ hmo
                    · clear hne hmo
                      go_wp2_with fail
                      go_roundg gk
                      case measure => omega
                      case rel => exact ⟨k + 1, s, by omega, by go_num, rfl, by omega, by omega, by rw [← HF2.out, HP.out], by have := hb2.size; simp at this; omega, hb.trans (((Below.refl _ _).alloc (by omega) _).trans (hb2.mono (by omega)))⟩
                  · clear hne hmo
                    go_wp2_with fail
                    go_roundg gk
                    case measure => omega
                    case rel => exact ⟨k + 1, s, by omega, by go_num, rfl, by omega, by omega, by rw [← HF2.out, HP.out], by have := hb2.size; simp at this; omega, hb.trans (((Below.refl _ _).alloc (by omega) _).trans (hb2.mono (by omega)))⟩
    · have HF : Hid (startP tot age now s (L.drop k) = s) := by
        show startP tot age now s (L.drop k) = s
        rw [List.drop_of_length_le (by omega), startP]
      have HP := Lib.hid hP
      clear hP
      go_wp2_with fail
      (try rw [Exit.noGoto_ret])
      go_ret2
      exact ⟨ret2_int (by rw [← HP.out, HF.out]), hbw.trans (hb.mono (by omega))⟩

end Go.Proofs.YtnbggdpbgibpoaaDoor.Kp
