/- The contract of keep.Leave over fair segments. -/
import Derived.Test.YtnbggdpbgibpoaaDoorKeepE
namespace Go.Proofs.YtnbggdpbgibpoaaDoor.Kp
open Go.RowKit

/-- Which segments leave the disk; e: none left so far. -/
def leaveP (loc : Int) (e : Bool) : List Sg → List Int
  | [] => []
  | x :: l => if x.h = false ∧ e = true then leaveP loc e l
    else if l = [] ∨ x.h = false ∨ x.s = false ∨ x.r = false ∨ loc = -1 ∨ sumH (x :: l) ≤ loc then []
    else x.b :: leaveP loc false l

theorem leaveP_len (loc : Int) (l : List Sg) : ∀ e, (leaveP loc e l).length ≤ l.length := by
  induction l with
  | nil => intro e; simp [leaveP]
  | cons x l ih =>
    intro e
    rw [leaveP]
    split
    · have := ih e; simp; omega
    · split
      · simp
      · have := ih false; simp; omega

theorem owns_shape {w : World} {base : Nat} {e : TypeId} {size : Nat} {v : Value} {n : Nat} {xs : List Value} (h : w.ownsRow base e size v n xs) : ∃ a cap, v = .slice a n cap := by
  rcases h.2 with ⟨rfl, rfl⟩ | ⟨g, cap, cur, rfl, _⟩
  · exact ⟨_, _, rfl⟩
  · exact ⟨_, _, rfl⟩

theorem owns_below {w w' : World} {base : Nat} {e : TypeId} {size : Nat} {v : Value} {n : Nat} {xs : List Value} (h : w.ownsRow base e size v n xs) (hb : Below w.heap.size w w') : w'.ownsRow base e size v n xs := by
  refine ⟨h.1, ?_⟩
  rcases h.2 with hn | ⟨g, cap, cur, rfl, hbg, hgg, rest⟩
  · exact .inl hn
  · exact .inr ⟨g, cap, cur, rfl, hbg, by rw [hb.block g (Array.getElem?_eq_some_iff.1 hgg).1]; exact hgg, rest⟩

theorem owns_base {w : World} {base base' : Nat} {e : TypeId} {size : Nat} {v : Value} {n : Nat} {xs : List Value} (h : w.ownsRow base e size v n xs) (hb : base' ≤ base) : w.ownsRow base' e size v n xs := by
  refine ⟨h.1, ?_⟩
  rcases h.2 with hn | ⟨g, cap, cur, rfl, hbg, rest⟩
  · exact .inl hn
  · exact .inr ⟨g, cap, cur, rfl, by omega, rest⟩

theorem info2 : (Tryd.prog.info? 2).map (fun i => (i.zero, i.size, i.bytes)) = some (some (.int .i64 0), 1, 8) := by kernel_rfl

set_option maxHeartbeats 2000000 in
theorem leave_yes (loc tot age : Int) (g off cap : Nat) (L : List Sg) (w : World) (hn : L.length ≤ 1000) (hc : L.length ≤ cap) (hg : g < w.heap.size) (hat : SegsAt w g off L) (hf : KFair L)
    (a0 : -1 ≤ loc) (a1 : loc ≤ 1125899906842624) (b0 : -1 ≤ tot) (b1 : tot ≤ 1125899906842624) (c0 : -1 ≤ age) (c1 : age ≤ 1125899906842624) :
    Calls Tryd.prog 15 #[.agg #[.int .i64 loc, .int .i64 tot, .int .i64 age], .slice (some ⟨g, off, none⟩) L.length cap] w
      fun e w' => (∃ v, e = .returned (.tuple #[v, .nilIface]) ∧ w'.ownsRow w.heap.size 2 1 v (leaveP loc true L).length ((leaveP loc true L).map (.int .i64))) ∧ Below w.heap.size w w' := by
  obtain ⟨i0, hi, hz0, hz1, hz2⟩ := info_parts info2
  go_enter Tryd.func15, Tryd.ntmps15
  go_wp2_with fail
  go_step3
  go_wp2_with fail
  refine (valid_yes _ _ _ _ a0 a1 b0 b1 c0 c1).mono ?_
  rintro e w1 ⟨rfl, hb1⟩
  have r0 := (hb1.cell (p := ⟨w.heap.size, 0, none⟩) (by simp)).trans (show _ = some (Value.int .i64 loc) by go_simp)
  have hw1 : w.heap.size < w1.heap.size := by have := hb1.size; simp at this; omega
  have hbw : Below w.heap.size w w1 := ((Below.refl _ _).alloc (Nat.le_refl _) _).trans (hb1.mono (by simp))
  clear hb1
  go_wp2_with fail
  refine (fair_yes g off cap L _ hn (by omega) (hat.below hbw hg) hf).mono ?_
  rintro e w2 ⟨rfl, hb2⟩
  replace r0 := (hb2.cell (p := ⟨w.heap.size, 0, none⟩) (by simp; omega)).trans r0
  have hw2 : w.heap.size < w2.heap.size := by have := hb2.size; omega
  replace hbw := hbw.trans (hb2.mono (by omega))
  clear hb2 hw1
  go_wp2_with fail
  go_step3
  go_wp2_with fail
  go_loopg [8, 24] L.length (fun r v i wr => ∃ (k : Nat) (out : List Int), k + r = L.length ∧ i = .int .i64 k ∧ (∃ a cp, v = .slice a out.length cp) ∧ wr.ownsRow w2.heap.size 2 1 v out.length (out.map (.int .i64)) ∧ out.length ≤ k ∧
    out ++ leaveP loc out.isEmpty (L.drop k) = leaveP loc true L ∧ w2.heap.size ≤ wr.heap.size ∧ Below w2.heap.size w2 wr)
  case atStart => exact ⟨0, [], by omega, rfl, ⟨_, _, rfl⟩, World.ownsRow_nil _ _ _ _, by simp, rfl, Nat.le_refl _, Below.refl _ _⟩
  case round =>
    obtain ⟨k, out, hk, rfl, ⟨a, cp, rfl⟩, hown, hol, hP, hsz, hb⟩ := hrel
    by_cases hlt : k < L.length
    · obtain ⟨x, hx⟩ : ∃ x, L[k]? = some x := ⟨_, List.getElem?_eq_getElem hlt⟩
      obtain ⟨x0, x1, x2, x3, x4, x5, x6⟩ := ((hat.below hbw hg) k x hx).below hb (by omega)
      obtain ⟨q0, q1, q2, q3, q4, q5, q6, q7⟩ := hf.ok x (List.mem_of_getElem? hx)
      replace r0 := (hb.cell (p := ⟨w.heap.size, 0, none⟩) (by simp; omega)).trans r0
      have hdr : L.drop k = x :: L.drop (k + 1) := by rw [List.drop_eq_getElem_cons hlt]; congr 1; exact Option.some.inj ((List.getElem?_eq_getElem hlt).symm.trans hx)
      have HP := Lib.hid hP
      have HX := Lib.hid hx
      have HD := Lib.hid hdr
      have HAT := Lib.hid hat
      have HO := Lib.hid hown
      have hwr : w.heap.size < wr.heap.size := by omega
      clear hP hx hdr hat hown
      cases hh : x.h
      · by_cases ho : out = []
        · subst ho
          have HF : Hid (leaveP loc ([] : List Int).isEmpty (L.drop k) = leaveP loc true (L.drop (k + 1))) := by
            show leaveP loc true (L.drop k) = _
            rw [HD.out, leaveP, if_pos ⟨hh, rfl⟩]
          obtain ⟨gk, rfl⟩ : ∃ m, gk = m + 1 := ⟨gk - 1, by omega⟩
          go_wp2_with fail
          go_roundg gk
          case measure => omega
          case rel => exact ⟨k + 1, [], by omega, by go_num, ⟨_, _, rfl⟩, owns_below HO.out ((Below.refl _ _).alloc (Nat.le_refl _) _), by simp, by rw [← HP.out, HF.out]; rfl, by simp; omega, hb.trans (((Below.refl _ _).alloc (Nat.le_refl _) _).mono (by omega))⟩
        · have HF : Hid (leaveP loc out.isEmpty (L.drop k) = []) := by
            show leaveP loc out.isEmpty (L.drop k) = []
            rw [HD.out, leaveP, if_neg (by simp [ho]), if_pos (.inr (.inl hh))]
          have e1 : decide (out.length = 0) = false := by simpa using ho
          have e2 : ((out.length : Int) == 0) = false := by simpa using ho
          clear ho
          by_cases hl : k + 1 = L.length
          · have e3 : ((k : Int) == (L.length : Int) - 1) = true := by simp; omega
            go_wp2_with fail
            (try rw [Exit.noGoto_ret])
            go_ret2
            rw [← HP.out, HF.out, List.append_nil]
            exact ⟨⟨_, rfl, owns_base (owns_below HO.out ((Below.refl _ _).alloc (Nat.le_refl _) _)) (by omega)⟩, hbw.trans ((hb.mono (by omega)).trans (((Below.refl _ _).alloc (Nat.le_refl _) _).mono (by omega)))⟩
          · have e3 : ((k : Int) == (L.length : Int) - 1) = false := by simp; omega
            go_wp2_with fail
            (try rw [Exit.noGoto_ret])
            go_ret2
            rw [← HP.out, HF.out, List.append_nil]
            exact ⟨⟨_, rfl, owns_base (owns_below HO.out ((Below.refl _ _).alloc (Nat.le_refl _) _)) (by omega)⟩, hbw.trans ((hb.mono (by omega)).trans (((Below.refl _ _).alloc (Nat.le_refl _) _).mono (by omega)))⟩
      · have hnh : ¬ (x.h = false ∧ out.isEmpty = true) := by rw [hh]; simp
        by_cases hl : k + 1 = L.length
        · have HF : Hid (leaveP loc out.isEmpty (L.drop k) = []) := by
            show leaveP loc out.isEmpty (L.drop k) = []
            rw [HD.out, leaveP, if_neg hnh, if_pos (.inl (by simp; omega))]
          have e3 : ((k : Int) == (L.length : Int) - 1) = true := by simp; omega
          clear hnh
          go_wp2_with fail
          (try rw [Exit.noGoto_ret])
          go_ret2
          rw [← HP.out, HF.out, List.append_nil]
          exact ⟨⟨_, rfl, owns_base (owns_below HO.out ((Below.refl _ _).alloc (Nat.le_refl _) _)) (by omega)⟩, hbw.trans ((hb.mono (by omega)).trans (((Below.refl _ _).alloc (Nat.le_refl _) _).mono (by omega)))⟩
        · have e3 : ((k : Int) == (L.length : Int) - 1) = false := by simp; omega
          have hne : L.drop (k + 1) ≠ [] := by simp; omega
          cases hs : x.s
          · have HF : Hid (leaveP loc out.isEmpty (L.drop k) = []) := by
              show leaveP loc out.isEmpty (L.drop k) = []
              rw [HD.out, leaveP, if_neg hnh, if_pos (.inr (.inr (.inl hs)))]
            clear hnh hne
            go_wp2_with fail
            (try rw [Exit.noGoto_ret])
            go_ret2
            rw [← HP.out, HF.out, List.append_nil]
            exact ⟨⟨_, rfl, owns_base (owns_below HO.out ((Below.refl _ _).alloc (Nat.le_refl _) _)) (by omega)⟩, hbw.trans ((hb.mono (by omega)).trans (((Below.refl _ _).alloc (Nat.le_refl _) _).mono (by omega)))⟩
          · cases hr : x.r
            · have HF : Hid (leaveP loc out.isEmpty (L.drop k) = []) := by
                show leaveP loc out.isEmpty (L.drop k) = []
                rw [HD.out, leaveP, if_neg hnh, if_pos (.inr (.inr (.inr (.inl hr))))]
              clear hnh hne
              go_wp2_with fail
              (try rw [Exit.noGoto_ret])
              go_ret2
              rw [← HP.out, HF.out, List.append_nil]
              exact ⟨⟨_, rfl, owns_base (owns_below HO.out ((Below.refl _ _).alloc (Nat.le_refl _) _)) (by omega)⟩, hbw.trans ((hb.mono (by omega)).trans (((Below.refl _ _).alloc (Nat.le_refl _) _).mono (by omega)))⟩
            · by_cases hloc : loc = -1
              · have HF : Hid (leaveP loc out.isEmpty (L.drop k) = []) := by
                  show leaveP loc out.isEmpty (L.drop k) = []
                  rw [HD.out, leaveP, if_neg hnh, if_pos (.inr (.inr (.inr (.inr (.inl hloc)))))]
                have e4 : (loc == -1) = true := by simpa using hloc
                clear hnh hne hloc
                go_wp2_with fail
                (try rw [Exit.noGoto_ret])
                go_ret2
                rw [← HP.out, HF.out, List.append_nil]
                exact ⟨⟨_, rfl, owns_base (owns_below HO.out ((Below.refl _ _).alloc (Nat.le_refl _) _)) (by omega)⟩, hbw.trans ((hb.mono (by omega)).trans (((Below.refl _ _).alloc (Nat.le_refl _) _).mono (by omega)))⟩
              · have e4 : (loc == -1) = false := by simpa using hloc
                have HF0 : Hid (sumH (L.drop k) ≤ loc → leaveP loc out.isEmpty (L.drop k) = []) := by
                  show _ → _
                  intro h
                  rw [HD.out] at h ⊢
                  rw [leaveP, if_neg hnh, if_pos (.inr (.inr (.inr (.inr (.inr h)))))]
                have HF1 : Hid (¬ sumH (L.drop k) ≤ loc → leaveP loc out.isEmpty (L.drop k) = x.b :: leaveP loc false (L.drop (k + 1))) := by
                  show _ → _
                  intro h
                  rw [HD.out] at h ⊢
                  rw [leaveP, if_neg hnh, if_neg (by rw [hh, hs, hr]; simp [hne, hloc]; simpa using h)]
                clear hnh hne hloc
                have i0' : (0 : Int) ≤ (k : Int) := by omega
                have i1' : (k : Int) ≤ (L.length : Int) := by omega
                have i2' : (L.length : Int) ≤ (cap : Int) := by omega
                have i3' : ¬ cap = k := by omega
                have HS : ∀ wz, Below wr.heap.size wr wz → SegsAt wz g off L := fun wz hz => ((HAT.out.below hbw hg).below hb (by omega)).below hz (by omega)
                have HS := Lib.hid HS
                go_upto_region 18 with fail
                go_cut [38] (fun m wx => m = .bool (decide (sumH (L.drop k) ≤ loc)) ∧ wr.heap.size < wx.heap.size ∧ Below (wr.heap.size + 1) (wr.alloc (.cells #[.int .i64 x.b, .int .i64 x.e, .int .i64 x.z, .int .i64 x.t, .bool true, .bool true, .bool true] 34)) wx)
                case first =>
                  go_region_held3 (fun w' => w'.cell? ⟨w.heap.size, 0, none⟩ = some (.int .i64 loc)) (first | go_keep | exact (hb3.cell (p := ⟨w.heap.size, 0, none⟩) (by simp; omega)).trans (by assumption))
                    (first
                      | (with_reducible refine (sum_here_from g off (cap - k) L.length k L _ rfl hn ?_ ?_ hf.zs).mono ?_
                         · simp; omega
                         · exact HS.out _ (((Below.refl _ _).alloc (Nat.le_refl _) _).drew)
                         rintro e w3 ⟨rfl, hb3⟩))
                  go_wp2_with fail
                  go_meet
                  exact ⟨rfl, by have := hb3.size; simp at this; omega, (Below.refl _ _).drew.trans (hb3.mono (by simp))⟩
                case rest =>
                  obtain ⟨rfl, hsz2, hb2⟩ := hcut
                  have y0 := (hb2.cell (p := ⟨wr.heap.size, 0, none⟩) (by simp)).trans (show _ = some (Value.int .i64 x.b) by go_simp)
                  have HB : Hid (Below wr.heap.size wr wc) := (((Below.refl wr.heap.size wr).alloc (Nat.le_refl _) _).trans (hb2.mono (by omega)))
                  clear x0 x1 x2 x3 x4 x5 x6 r0
                  by_cases hz : sumH (L.drop k) ≤ loc
                  · have HF := Lib.hid (HF0.out hz)
                    have e5 : decide (sumH (L.drop k) ≤ loc) = true := by simpa using hz
                    rw [e5]
                    clear e5 hz
                    go_wp2_with fail
                    (try rw [Exit.noGoto_ret])
                    go_ret2
                    rw [← HP.out, HF.out, List.append_nil]
                    exact ⟨⟨_, rfl, owns_base (owns_below HO.out HB.out) (by omega)⟩, hbw.trans ((hb.mono (by omega)).trans (HB.out.mono (by omega)))⟩
                  · have HF := Lib.hid (HF1.out hz)
                    have e5 : decide (sumH (L.drop k) ≤ loc) = false := by simpa using hz
                    rw [e5]
                    clear e5 hz
                    have HO2 := Lib.hid (owns_below HO.out HB.out)
                    have hwc : w2.heap.size ≤ wc.heap.size := by omega
                    go_wp2_with (at_builtin; refine wpList_append_own _ rfl _ _ 40 rfl w2.heap.size 2 i0 (.int .i64 0) 1 8 Tryd.underlying40 hi hz0 hz1 hz2 rfl (by decide) _ _ _ rfl (HO2.out.alloc _) ⟨wc.heap.size, 0, none⟩ 1 1 [.int .i64 x.b] rfl rfl ?c1 ?c2 ?c3 ?c4 ?c5 ?_)
                    case c2 => rfl
                    case c3 => unfold maxLen; omega
                    case c4 => omega
                    case c5 => first | omega | (simp; omega)
                    intro v' w4 hown' hgrow _
                    obtain ⟨a', cp', rfl⟩ := owns_shape hown'
                    obtain ⟨gk, rfl⟩ : ∃ m, gk = m + 1 := ⟨gk - 1, by omega⟩
                    go_wp2_with fail
                    go_roundg gk
                    case measure => omega
                    case rel => exact ⟨k + 1, out ++ [x.b], by omega, by go_num, ⟨a', cp', by simp⟩, by simpa using hown', by simp; omega, by rw [← HP.out, HF.out, show (out ++ [x.b]).isEmpty = false by simp]; simp, by have := hgrow.size; simp at this; omega, (hb.trans (HB.out.mono (by omega))).trans (((Below.refl _ _).alloc hwc _).grown hgrow (by simp; omega) (fun j hj => (World.ownsRow.lt HO2.out j hj).1))⟩
    · have HF : Hid (leaveP loc out.isEmpty (L.drop k) = []) := by
        show leaveP loc out.isEmpty (L.drop k) = []
        rw [List.drop_of_length_le (by omega), leaveP]
      have HP := Lib.hid hP
      have HO := Lib.hid hown
      have hwr : w.heap.size < wr.heap.size := by omega
      clear hP hown
      go_wp2_with fail
      (try rw [Exit.noGoto_ret])
      go_ret2
      rw [← HP.out, HF.out, List.append_nil]
      exact ⟨⟨_, rfl, owns_base (owns_below HO.out (Below.refl wr.heap.size wr)) (by omega)⟩, hbw.trans ((hb.mono (by omega)).trans ((Below.refl wr.heap.size wr).mono (by omega)))⟩

end Go.Proofs.YtnbggdpbgibpoaaDoor.Kp
