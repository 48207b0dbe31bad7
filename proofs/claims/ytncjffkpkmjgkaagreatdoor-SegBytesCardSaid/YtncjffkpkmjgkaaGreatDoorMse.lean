/- cordwoodref1.Parse. Bytes that begin with a batch, taken apart; cordwoodref.SameBytes of any bytes. -/
import Derived.Test.YtncjffkpkmjgkaaGreatDoorMsb
import Derived.Test.YtncjffkpkmjgkaaGreatDoorMsd
import Derived.Test.YtncjffkpkmjgkaaGreatDoorMe
import Derived.Deep.AppendLies
import Derived.Deep.RegionLaw

/-! Un -/
namespace Go.Proofs.YtncjffkpkmjgkaaGreatDoor.Sg
open Go.RowKit Er Go.Maps

/-- What Parse comes to. -/
def ParseP (b0 : Nat) (N : List Nat) (o : Option Bt) (e : Ending) (w' : World) : Prop := match o with
  | some x => ∃ rs, e = .returned (.agg #[.int .i64 x.b, .int .i64 x.e, rs]) ∧ RcO w' b0 rs x.r N ∧ x.r.length ≤ 65 ∧ BtBy x
  | none => e = .returned (.agg #[.int .i64 0, .int .i64 0, .slice none 0 0])

set_option maxRecDepth 100000 in
set_option maxHeartbeats 4000000 in
theorem parse_any (N : List Nat) (v : Value) (xs : List Nat) (w : World) (hN : ∀ k, k ∈ N → k < w.heap.size) (h : SlB w v xs) (hv : VR v xs) (hvl : ∀ b, v.ownBlock = some b → b < w.heap.size) (hby : ∀ y ∈ xs, y < 256) (hl : xs.length ≤ 1099511627776) :
    Calls Tryz.prog 103 #[v] w fun e w' => ParseP w.heap.size N (parseR xs) e w' ∧ Below w.heap.size w w' := by
  have HBY := Lib.hid hby
  have HV := Lib.hid hv
  obtain ⟨gv, ov, cv, hvv, hcv⟩ := hv
  obtain ⟨w1, hw1⟩ : ∃ w1, (w.alloc (.cells #[.int .i64 0, .int .i64 0, .slice none 0 0] 38)).alloc (.cells #[v, .int .i64 0, .int .i64 0, .bool false, .int .i64 0] 195) = w1 := ⟨_, rfl⟩
  obtain ⟨r, hr⟩ : ∃ r, w.heap.size + 1 = r := ⟨_, rfl⟩
  have hrow1 : w1.rowIs w.heap.size 38 3 (btF 0 0 (.slice none 0 0)) := by
    rw [← hw1]
    exact (World.rowIs_alloc w #[.int .i64 0, .int .i64 0, .slice none 0 0] _ _ (fun i hi => by
      have hi' : i < 3 := hi
      rcases (show i = 0 ∨ i = 1 ∨ i = 2 by omega) with rfl | rfl | rfl <;> rfl)).alloc _
  have hu1 : Upd [] w w1 := by rw [← hw1]; exact ((Upd.refl [] w).alloc _).alloc _
  have hrv1 : RfV w1 r v xs 0 := by
    refine ⟨?_, h.upd hu1 (by simp), fun e => by have := hvl r e; omega, Nat.zero_le _, hl⟩
    rw [← hw1, ← hr]
    have := World.rowIs_alloc (w.alloc (.cells #[.int .i64 0, .int .i64 0, .slice none 0 0] 38)) #[v, .int .i64 0, .int .i64 0, .bool false, .int .i64 0] 195 (rfF v 0 0 false 0) (fun i hi => by
      have hi' : i < 5 := hi
      rcases (show i = 0 ∨ i = 1 ∨ i = 2 ∨ i = 3 ∨ i = 4 by omega) with rfl | rfl | rfl | rfl | rfl <;> rfl)
    simpa using this
  have hrp1 : RfP w1 r v xs (some 0) := hrv1
  have hvv' : v = .slice (some ⟨gv, ov, none⟩) xs.length cv := hvv
  obtain ⟨nl, hnl⟩ : ∃ n, xs.length = n := ⟨_, rfl⟩
  have HVL := Lib.hid hvl
  subst hvv
  rw [hnl] at hcv hl hrp1 hw1 HV HVL ⊢
  have HNL := Lib.hid hnl
  clear h hrv1 hvl hby hvv' hnl
  go_enter Tryz.func103, Tryz.ntmps103
  go_wp2_with fail
  refine (rfix_p 8 (by omega) (by omega) HBY.out HV.out hrp1).mono ?_
  rintro e w2 ⟨⟨z8, rfl, hz8, hrp2, hq8⟩, hup2⟩
  have hs12 := hup2.size
  have hu2 := hu1.trans' hup2 (fun k hk => .inr (by simp at hk; omega))
  have hrow2 := hrow1.of_block (hup2.block _ hrow1.lt (by simp; omega))
  obtain ⟨bn, hbn⟩ : ∃ b, IntKind.i64.wrap (z8 : Int) = b := ⟨_, rfl⟩
  clear hrp1 hup2 hrow1 hz8 hw1
  rw [Option.bind_some] at hq8 hrp2
  obtain ⟨o1, ho1⟩ : ∃ o, o = opO (rdFix xs 8 0) := ⟨_, rfl⟩
  rw [← ho1] at hrp2
  have HO1 := Lib.hid ho1
  have HQ8 := Lib.hid hq8
  clear ho1 hq8
  go_wp2_with fail
  refine (rfix_p 4 (by omega) (by omega) HBY.out HV.out hrp2).mono ?_
  rintro e w3 ⟨⟨z4, rfl, hz4, hrp3, hq4⟩, hup3⟩
  have hs23 := hup3.size
  have hu3 := hu2.trans' hup3 (fun k hk => .inr (by simp at hk; omega))
  have hrow3 := hrow2.of_block (hup3.block _ hrow2.lt (by simp; omega))
  have hz4' : z4 < 4294967296 := hz4
  obtain ⟨o2, ho2⟩ : ∃ o, o = opO (o1.bind (rdFix xs 4)) := ⟨_, rfl⟩
  rw [← ho2] at hrp3
  have HO2 := Lib.hid ho2
  have HQ4 := Lib.hid hq4
  clear hrp2 hup3 hu2 hrow2 hz4 ho2 hq4
  have hr3 := hrp3.lt
  have hrow3b : (w3.alloc (.cells #[.int .i64 bn, .int .i64 z4, .slice none 0 0] 38)).rowIs w3.heap.size 38 3 (btF bn z4 (.slice none 0 0)) :=
    World.rowIs_alloc w3 #[.int .i64 bn, .int .i64 z4, .slice none 0 0] _ _ (fun i hi => by
      have hi' : i < 3 := hi
      rcases (show i = 0 ∨ i = 1 ∨ i = 2 by omega) with rfl | rfl | rfl <;> rfl)
  obtain ⟨bb, hbb⟩ : ∃ bb, bb = w3.heap.size := ⟨_, rfl⟩
  rw [← hbb] at hrow3b hr3
  have hw3 := hrow3.lt
  rw [← hbb] at hw3
  have hsu3 := hu3.size
  have hrp4 := hrp3.below ((Below.refl _ _).alloc (Nat.le_refl _) (.cells #[.int .i64 bn, .int .i64 z4, .slice none 0 0] 38)) (Nat.le_refl _)
  have hrow4 := hrow3.alloc (.cells #[.int .i64 bn, .int .i64 z4, .slice none 0 0] 38)
  have hu4 := hu3.alloc (.cells #[.int .i64 bn, .int .i64 z4, .slice none 0 0] 38)
  have HBB := Lib.hid hbb
  have HBN := Lib.hid hbn
  clear hrp3 hu3 hrow3
  go_wp2_with fail
  refine (rfix_p 2 (by omega) (by omega) HBY.out HV.out hrp4).mono ?_
  rintro e w5 ⟨⟨z2, rfl, hz2, hrp5, hq2⟩, hup5⟩
  have hz2' : z2 < 65536 := hz2
  have hu5 := hu4.trans' hup5 (fun k hk => .inr (by simp at hk; omega))
  have hrow5 := hrow4.of_block (hup5.block _ hrow4.lt (by simp; omega))
  have hrow5b := hrow3b.of_block (hup5.block _ hrow3b.lt (by simp; omega))
  obtain ⟨o3, ho3⟩ : ∃ o, o = opO (o2.bind (rdFix xs 2)) := ⟨_, rfl⟩
  rw [← ho3] at hrp5
  have HO3 := Lib.hid ho3
  have HQ2 := Lib.hid hq2
  clear hrp4 hup5 hu4 hrow4 hrow3b hbb hbn hz2 ho3 hq2
  go_wp2_with fail
  refine (rint_p _ _ (by omega) (by omega) HBY.out HV.out hrp5).mono ?_
  rintro e w6 ⟨⟨t0, rfl, ht1, ht2, hrp6, hqi⟩, hup6⟩
  have hu6 := hu5.trans' hup6 (fun k hk => .inr (by simp at hk; omega))
  have hrow6 := hrow5.of_block (hup6.block _ hrow5.lt (by simp; omega))
  have hrow6b := hrow5b.of_block (hup6.block _ hrow5b.lt (by simp; omega))
  obtain ⟨o4, ho4⟩ : ∃ o, o = opO (o3.bind (rdInt xs (-4611686018427387904) 4611686018427387904)) := ⟨_, rfl⟩
  rw [← ho4] at hrp6
  have hpg : parseR xs = pgo xs z2 bn z4 z2 [] t0 o4 := by rw [← HBN.out]; exact parse_go xs z8 z4 z2 t0 o1 o2 o3 o4 HO1.out HQ8.out HO2.out HQ4.out HO3.out HQ2.out ho4 hqi
  have HPG := Lib.hid hpg
  clear hrp5 hup6 hu5 hrow5 hrow5b ho4 hqi hpg
  rw [← HBB.out]
  have HGV : Hid (gv < w.heap.size) := HVL.out gv rfl
  go_wp2_with fail
  go_loopg [6, 7] 66 (fun m t j wr => ∃ (u : Value) (L : List Rc) (tn : Int) (op : Option Nat), L.length + m = 66 ∧ L.length ≤ 65 ∧ L.length ≤ z2 ∧ j = .int .i64 L.length ∧ t = .int .i64 tn ∧ -(4611686018427387904 + 1125899906842624 * (L.length : Int)) ≤ tn ∧ tn ≤ 4611686018427387904 + 1125899906842624 * (L.length : Int) ∧
    RfP wr r (.slice (some ⟨gv, ov, none⟩) nl cv) xs op ∧ wr.rowIs bb 38 3 (btF bn z4 u) ∧ wr.rowIs w.heap.size 38 3 (btF 0 0 (.slice none 0 0)) ∧
    RcO wr w.heap.size u L (gv :: r :: bb :: w.heap.size :: N) ∧ Upd [] w wr ∧ (∀ y ∈ L, (∀ b ∈ y.k, b < 256) ∧ (∀ b ∈ y.v, b < 256)) ∧ parseR xs = pgo xs z2 bn z4 (z2 - L.length) L tn op)
  case atStart => exact ⟨.slice none 0 0, [], t0, o4, by simp, by simp, by simp, rfl, rfl, by simp; omega, by simp; omega, hrp6, hrow6b, hrow6, RcO.nil _ _ _, hu6, by simp, HPG.out⟩
  case round =>
    obtain ⟨u, L, tn, op, hk, hL65, hLz, rfl, rfl, htn1, htn2, hrp, hrb, hr0, hro, hu, hlb, hpg⟩ := hrel
    have HLB := Lib.hid hlb
    have HPG2 := Lib.hid hpg
    have HRP := Lib.hid hrp
    obtain ⟨kL, hkL⟩ : ∃ k, L.length = k := ⟨_, rfl⟩
    have HKL := Lib.hid hkL
    rw [hkL] at hk hL65 hLz htn1 htn2 ⊢
    have hcs : (kL < z2 ∧ kL ≤ 64 ∧ ∃ p, op = some p) ∨ (kL < z2 ∧ kL ≤ 64 ∧ op = none) ∨ (kL < z2 ∧ ¬ kL ≤ 64) ∨ ¬ kL < z2 := by
      by_cases h1 : kL < z2 <;> by_cases h2 : kL ≤ 64
      · cases op with
        | none => exact .inr (.inl ⟨h1, h2, rfl⟩)
        | some p => exact .inl ⟨h1, h2, p, rfl⟩
      · exact .inr (.inr (.inl ⟨h1, h2⟩))
      · exact .inr (.inr (.inr h1))
      · exact .inr (.inr (.inr h1))
    clear hlb hpg hrp
    rcases hcs with ⟨hi1, hi2, p, hop⟩ | ⟨hi1, hi2, hop⟩ | ⟨hi1, hi2⟩ | hi1
    · subst hop
      obtain ⟨gj, rfl⟩ : ∃ x, gk = x + 1 := ⟨gk - 1, by omega⟩
      have j1 : (kL : Int) < (z2 : Int) := by omega
      have j2 : (kL : Int) ≤ 64 := by omega
      clear hkL
      go_wp2_with fail
      refine (fine_p true (by rfl) HRP.out).mono ?_
      rintro e w' ⟨rfl, rfl⟩
      go_wp2_with fail
      refine (rint_p _ _ (by omega) (by omega) HBY.out HV.out HRP.out).mono ?_
      rintro e w7 ⟨⟨dz, rfl, hd1, hd2, hrp7, hqd⟩, hup7⟩
      rw [Option.bind_some] at hqd hrp7
      obtain ⟨q1, hq1⟩ : ∃ o, o = opO (rdInt xs (-1125899906842624) 1125899906842624 p) := ⟨_, rfl⟩
      rw [← hq1] at hrp7
      have HQ1 := Lib.hid hq1
      have HQD := Lib.hid hqd
      have hu7 := hu.trans' hup7 (fun k hk => .inr (by simp at hk; omega))
      have hrb7 := hrb.of_block (hup7.block _ hrb.lt (by simp; omega))
      have hr07 := hr0.of_block (hup7.block _ hr0.lt (by simp; omega))
      have hro7 := hro.upd hup7 (fun k hk => .inl (by simp at hk; simp [hk]))
      obtain ⟨tm, htm⟩ : ∃ t, tn + dz = t := ⟨_, rfl⟩
      have HTM := Lib.hid htm
      have htm1 : -(4611686018427387904 + 1125899906842624 * ((kL : Int) + 1)) ≤ tm := by omega
      have htm2 : tm ≤ 4611686018427387904 + 1125899906842624 * ((kL : Int) + 1) := by omega
      have HRP7 : Hid (∀ wz, Below w7.heap.size w7 wz → RfP wz r (.slice (some ⟨gv, ov, none⟩) nl cv) xs q1) := fun wz hz => hrp7.below hz (Nat.le_refl _)
      obtain ⟨cs, hcs⟩ := hro7
      have hc2 := hrb7.cell (i := 2) (by omega)
      rw [show btF bn z4 u 2 = u from rfl] at hc2
      have hf2 := hrb7.frozen 2
      have hbb7 := hrb7.lt
      have hrr7 := hrp7.lt
      obtain ⟨i0, hi0, hz0, hz1', hz2''⟩ := info_parts infoRc
      have HI := Lib.hid hi0
      have hneb : u.ownBlock ≠ some bb := by
        obtain ⟨-, h2, -⟩ := hcs
        exact fun e => h2 bb e (by simp)
      have HTM1 := Lib.hid htm1
      have HTM2 := Lib.hid htm2
      clear hrp7 hi0 htm1 htm2 hq1 hqd
      go_upto_region 9 with fail
      go_region_law
        (first
          | (go_simp
             with_reducible refine (rbytes_p (op := q1) 64 64 rfl (by omega) HBY.out HV.out ?_).mono ?_
             · exact HRP7.out _ (Below.refl _ _).drew
             rintro e w8 ⟨⟨yk, ka, kc, rfl, howK, hkb, hk5, hrpK, hqk⟩, hupK⟩
             have hszK := hupK.size
             simp at hszK
             have hbb8 : bb < w8.heap.size := by omega
             have hcK := (hupK.cell (b := bb) (o := 2) (by simpa using hbb7) (by simp; omega)).trans (show _ = some u from hc2))
          | (go_simp
             with_reducible refine (rbytes_p (op := opO (q1.bind (rdBy xs 64))) 512 512 rfl (by omega) HBY.out HV.out ?_).mono ?_
             · exact hrpK
             rintro e w9 ⟨⟨yv, va, vc, rfl, howV, hvb2, hv5, hrpV, hqv⟩, hupV⟩
             have hszV := hupV.size
             have hbb9 : bb < w9.heap.size := by omega
             have hcV := (hupV.cell (b := bb) (o := 2) (by omega) (by simp; omega)).trans hcK)
          | (have hcs9 := ((hcs.upd ((Upd.refl [] _).drewN 1) (by simp)).upd hupK (fun k hk => .inl (by simp at hk; simp [hk]))).upd hupV (fun k hk => .inl (by simp at hk; simp [hk]))
             refine step_append_lies _ (by rfl) _ _ _ (by rfl) w.heap.size 116 i0 _ 3 56 Tryz.underlying36 HI.out hz0 hz1' hz2'' rfl (by omega) u L.length cs (by rfl) (hcs9.1.alloc _)
               ⟨w9.heap.size, 0, none⟩ 1 1 [.int .i64 tm, .slice ka yk.length kc, .slice va yv.length vc] (by rfl) (by rfl)
               (World.news_of_block (cs := #[.int .i64 tm, .slice ka yk.length kc, .slice va yv.length vc]) (t := 116) (fr := (0, 0)) (heap_alloc_new w9 _)) (by simp [Value.oneCell'])
               (by omega) (by rw [HKL.out]; unfold maxLen; omega) (by rw [HKL.out]; omega) (by simp; omega) (w9.heap.size + 1) (by simp) ?_
             intro gg cap1 w10 hown10 hgrow hat hltg
             have hrb10 := ((((hrb7.drew).of_block (hupK.block bb (by simpa using hbb7) (by simp; omega))).of_block (hupV.block bb (by omega) (by simp; omega))).alloc _).of_block (hgrow.block bb (by simp; omega) (fun e => hneb e.symm))
             have hf10 := hrb10.frozen 2
             have hc10 := hrb10.cell (i := 2) (by omega)
             rw [show btF bn z4 u 2 = u from rfl] at hc10))
      all_goals
        go_wp2_with fail
        go_roundg gj
        case measure => omega
        case rel =>
          have hs7 : w.heap.size < w7.heap.size := hr07.lt
          have hul : ∀ b, u.ownBlock = some b → b < w7.heap.size := fun b hb => (World.ownsRow.lt hcs.1 b hb).2
          have hNl : ∀ b, b ∈ gv :: r :: bb :: w.heap.size :: N → b < w7.heap.size := by
            intro b hb
            simp only [List.mem_cons] at hb
            rcases hb with rfl | rfl | rfl | rfl | hb
            · have := HGV.out; omega
            · exact hrr7
            · exact hbb7
            · exact hs7
            · have := hN b hb; omega
          have hkK : SlB w9 (.slice ka yk.length kc) yk := (owns_read howK).2.upd hupV (fun b hb e => by
            have := (World.ownsRow.lt howK b e).1
            simp at hb this; omega)
          have hkV := (owns_read howV).2
          have nK : ∀ b, (Value.slice ka yk.length kc).ownBlock = some b → b ∉ gv :: r :: bb :: w.heap.size :: N ∧ u.ownBlock ≠ some b := fun b hb => by
            have := (World.ownsRow.lt howK b hb).1
            simp at this
            exact ⟨fun hm => by have := hNl b hm; omega, fun e => by have := hul b e; omega⟩
          have nV : ∀ b, (Value.slice va yv.length vc).ownBlock = some b → b ∉ gv :: r :: bb :: w.heap.size :: N ∧ u.ownBlock ≠ some b := fun b hb => by
            have := (World.ownsRow.lt howV b hb).1
            exact ⟨fun hm => by have := hNl b hm; omega, fun e => by have := hul b e; omega⟩
          have hal := (Upd.refl [] w9).alloc (.cells #[.int .i64 tm, .slice ka yk.length kc, .slice va yv.length vc] 116)
          have hunot : ∀ b, b ∈ gv :: r :: bb :: w.heap.size :: N → u.ownBlock ≠ some b := fun b hb e => hcs.2.1 b e hb
          have hpush := (hcs9.upd hal (by simp)).push (w' := w10) (u' := .slice (some ⟨gg, 0, none⟩) (L.length + 1) cap1) ⟨tm, yk, yv⟩ (.slice ka yk.length kc) (.slice va yv.length vc) hown10 hgrow
            (by rcases hat with e | e; exact .inl (by rw [e]; rfl); exact .inr ⟨gg, rfl, by rw [e]; simp⟩) (fun b hb => by have := hNl b hb; simp; omega) (hkK.upd hal (by simp)) (hkV.upd hal (by simp)) (.inr nK) (.inr nV)
          have hset : Upd [bb] w10 (w10.setCell ⟨bb, 2, none⟩ (.slice (some ⟨gg, 0, none⟩) (L.length + 1) cap1)) := (Upd.refl _ _).setCell _ _ _ (.inl (by simp))
          have hro11 := hpush.upd hset (fun b hb => .inl (by simp at hb; simp [hb]))
          have hra11 := ((hrpV.upd hal (by simp) (by simp)).upd (Upd.of_grown hgrow) (fun hm => by simp at hm; exact hunot r (by simp) hm) (fun b hb e => by simp at hb; cases e; exact hunot gv (by simp) hb)).upd hset (by simp; omega) (fun b hb e => by
            have hb' : b = bb := by simpa using hb
            have he' : gv = b := by simpa [Value.ownBlock] using e
            have := HGV.out
            omega)
          have hr010 := ((((hr07.drew).of_block (hupK.block _ (by simpa using hs7) (by simp; omega))).of_block (hupV.block _ (by omega) (by simp; omega))).alloc _).of_block (hgrow.block w.heap.size (by simp; omega) (fun e => hunot w.heap.size (by simp) e.symm))
          have hr011 := hr010.setOther (a := ⟨bb, 2, none⟩) (by simp; omega) (.slice (some ⟨gg, 0, none⟩) (L.length + 1) cap1)
          have hrb11 := (hrb10.set 2 (.slice (some ⟨gg, 0, none⟩) (L.length + 1) cap1)).congr (g := btF bn z4 (.slice (some ⟨gg, 0, none⟩) (L.length + 1) cap1)) (fun i hi => by rcases (show i = 0 ∨ i = 1 ∨ i = 2 by omega) with rfl | rfl | rfl <;> simp [btF])
          have hu11 : Upd [] w (w10.setCell ⟨bb, 2, none⟩ (.slice (some ⟨gg, 0, none⟩) (L.length + 1) cap1)) :=
            (((((hu7.drewN 1).trans' hupK (fun b hb => .inr (by simp at hb; omega))).trans' hupV (fun b hb => .inr (by simp at hb; omega))).alloc _).grown hgrow (fun b hb => .inr (World.ownsRow.lt hcs.1 b hb).1)).setCell _ _ _ (.inr (by omega))
          have hlb11 : ∀ y ∈ L ++ [(⟨tm, yk, yv⟩ : Rc)], (∀ b ∈ y.k, b < 256) ∧ (∀ b ∈ y.v, b < 256) := fun y hy => by
            rcases List.mem_append.1 hy with hy | hy
            · exact HLB.out y hy
            · rw [List.mem_singleton.1 hy]; exact ⟨hkb, hvb2⟩
          have hlen : (L ++ [(⟨tm, yk, yv⟩ : Rc)]).length = kL + 1 := by rw [List.length_append, HKL.out]; rfl
          have hpgn : parseR xs = pgo xs z2 bn z4 (z2 - (kL + 1)) (L ++ [⟨tm, yk, yv⟩]) tm (opO ((opO (q1.bind (rdBy xs 64))).bind (rdBy xs 512))) := by
            have h1 := HPG2.out
            rw [HKL.out, show z2 - kL = (z2 - (kL + 1)) + 1 by omega, pgo_next xs z2 bn z4 (z2 - (kL + 1)) L tn p dz yk yv q1 _ _ HQ1.out HQD.out rfl hqk rfl hqv, HTM.out] at h1
            exact h1
          exact ⟨_, L ++ [⟨tm, yk, yv⟩], tm, _, by rw [hlen]; omega, by rw [hlen]; omega, by rw [hlen]; omega, by rw [hlen]; go_num, rfl, by rw [hlen]; have := HTM1.out; omega, by rw [hlen]; have := HTM2.out; omega, hra11, hrb11, hr011, hro11, hu11, hlb11, by rw [hlen]; exact hpgn⟩
    · subst hop
      have j1 : (kL : Int) < (z2 : Int) := by omega
      have j2 : (kL : Int) ≤ 64 := by omega
      have HPN : Hid (parseR xs = none) := by show _ = _; rw [HPG2.out]; rfl
      have c0 := hrb.cell (i := 0) (by omega)
      have c1 := hrb.cell (i := 1) (by omega)
      have c2 := hrb.cell (i := 2) (by omega)
      rw [show btF bn z4 u 0 = .int .i64 bn from rfl] at c0
      rw [show btF bn z4 u 1 = .int .i64 z4 from rfl] at c1
      rw [show btF bn z4 u 2 = u from rfl] at c2
      have e0 := hr0.cell (i := 0) (by omega)
      have e1 := hr0.cell (i := 1) (by omega)
      have e2 := hr0.cell (i := 2) (by omega)
      have f0 := hr0.frozen 0
      have f1 := hr0.frozen 1
      have f2 := hr0.frozen 2
      obtain ⟨cs, hcs⟩ := hro
      obtain ⟨ua, uc, rfl⟩ := owns_shape hcs.1
      rw [hkL] at c2
      have HCS := Lib.hid hcs
      have HU := Lib.hid hu
      have hbbr := hrb.lt
      have h0r := hr0.lt
      have hne0 : ¬ bb = w.heap.size := by omega
      have hne1 : ¬ w.heap.size = bb := by omega
      clear hu hcs
      go_wp2_with fail
      refine (fine_p false (by rfl) HRP.out).mono ?_
      rintro e w' ⟨rfl, rfl⟩
      go_wp2_with fail
      refine (fine_p false (by rfl) HRP.out).mono ?_
      rintro e w' ⟨rfl, rfl⟩
      have hrF := ((hr0.set 0 (.int .i64 0)).set 1 (.int .i64 0)).set 2 (.slice none 0 0)
      have huF : Upd [w.heap.size] wr (((wr.setCell ⟨w.heap.size, 0, none⟩ (.int .i64 0)).setCell ⟨w.heap.size, 1, none⟩ (.int .i64 0)).setCell ⟨w.heap.size, 2, none⟩ (.slice none 0 0)) :=
        (((Upd.refl _ _).setCell _ _ _ (.inl (by simp))).setCell _ _ _ (.inl (by simp))).setCell _ _ _ (.inl (by simp))
      obtain ⟨wf, hwf⟩ : ∃ wf, ((wr.setCell ⟨w.heap.size, 0, none⟩ (.int .i64 0)).setCell ⟨w.heap.size, 1, none⟩ (.int .i64 0)).setCell ⟨w.heap.size, 2, none⟩ (.slice none 0 0) = wf := ⟨_, rfl⟩
      rw [hwf] at hrF huF
      have g0 : wf.cell? ⟨w.heap.size, 0, none⟩ = some (.int .i64 0) := hrF.cell (i := 0) (by omega)
      have g1 : wf.cell? ⟨w.heap.size, 1, none⟩ = some (.int .i64 0) := hrF.cell (i := 1) (by omega)
      have g2 : wf.cell? ⟨w.heap.size, 2, none⟩ = some (.slice none 0 0) := hrF.cell (i := 2) (by omega)
      have hbF : Below w.heap.size w wf := (HU.out.trans' huF (fun b hb => .inr (by simp at hb; omega))).to_below (Nat.le_refl _) (by simp)
      have HBF := Lib.hid hbF
      have HUF := Lib.hid huF
      clear hrF huF hbF
      go_wp2_with fail
      exact bodyPost_ret (v := .agg #[.int .i64 0, .int .i64 0, .slice none 0 0]) (by simp [results, Tryz.results103, go_sem, g0, g1, g2]) rfl ⟨by rw [HPN.out]; exact rfl, HBF.out⟩
    · have j1 : (kL : Int) < (z2 : Int) := by omega
      have j2 : ¬ (kL : Int) ≤ 64 := by omega
      have HPN : Hid (parseR xs = none) := by show _ = _; rw [HPG2.out]; exact pgo_big _ _ _ _ _ _ _ _ (by omega)
      have c0 := hrb.cell (i := 0) (by omega)
      have c1 := hrb.cell (i := 1) (by omega)
      have c2 := hrb.cell (i := 2) (by omega)
      rw [show btF bn z4 u 0 = .int .i64 bn from rfl] at c0
      rw [show btF bn z4 u 1 = .int .i64 z4 from rfl] at c1
      rw [show btF bn z4 u 2 = u from rfl] at c2
      have e0 := hr0.cell (i := 0) (by omega)
      have e1 := hr0.cell (i := 1) (by omega)
      have e2 := hr0.cell (i := 2) (by omega)
      have f0 := hr0.frozen 0
      have f1 := hr0.frozen 1
      have f2 := hr0.frozen 2
      obtain ⟨cs, hcs⟩ := hro
      obtain ⟨ua, uc, rfl⟩ := owns_shape hcs.1
      rw [hkL] at c2
      have HCS := Lib.hid hcs
      have HU := Lib.hid hu
      have hbbr := hrb.lt
      have h0r := hr0.lt
      have hne0 : ¬ bb = w.heap.size := by omega
      have hne1 : ¬ w.heap.size = bb := by omega
      clear hu hcs
      cases op with
      | none =>
        go_wp2_with fail
        refine (fine_p false (by rfl) HRP.out).mono ?_
        rintro e w' ⟨rfl, rfl⟩
        have hrF := ((hr0.set 0 (.int .i64 0)).set 1 (.int .i64 0)).set 2 (.slice none 0 0)
        have huF : Upd [w.heap.size] wr (((wr.setCell ⟨w.heap.size, 0, none⟩ (.int .i64 0)).setCell ⟨w.heap.size, 1, none⟩ (.int .i64 0)).setCell ⟨w.heap.size, 2, none⟩ (.slice none 0 0)) :=
          (((Upd.refl _ _).setCell _ _ _ (.inl (by simp))).setCell _ _ _ (.inl (by simp))).setCell _ _ _ (.inl (by simp))
        obtain ⟨wf, hwf⟩ : ∃ wf, ((wr.setCell ⟨w.heap.size, 0, none⟩ (.int .i64 0)).setCell ⟨w.heap.size, 1, none⟩ (.int .i64 0)).setCell ⟨w.heap.size, 2, none⟩ (.slice none 0 0) = wf := ⟨_, rfl⟩
        rw [hwf] at hrF huF
        have g0 : wf.cell? ⟨w.heap.size, 0, none⟩ = some (.int .i64 0) := hrF.cell (i := 0) (by omega)
        have g1 : wf.cell? ⟨w.heap.size, 1, none⟩ = some (.int .i64 0) := hrF.cell (i := 1) (by omega)
        have g2 : wf.cell? ⟨w.heap.size, 2, none⟩ = some (.slice none 0 0) := hrF.cell (i := 2) (by omega)
        have hbF : Below w.heap.size w wf := (HU.out.trans' huF (fun b hb => .inr (by simp at hb; omega))).to_below (Nat.le_refl _) (by simp)
        have HBF := Lib.hid hbF
        have HUF := Lib.hid huF
        clear hrF huF hbF
        go_wp2_with fail
        exact bodyPost_ret (v := .agg #[.int .i64 0, .int .i64 0, .slice none 0 0]) (by simp [results, Tryz.results103, go_sem, g0, g1, g2]) rfl ⟨by rw [HPN.out]; exact rfl, HBF.out⟩
      | some p =>
        have hrv : RfV wr r (.slice (some ⟨gv, ov, none⟩) nl cv) xs p := HRP.out
        have cp := hrv.c1
        clear hrv
        by_cases hpn : p < nl
        · have j4 : (p : Int) < (nl : Int) := by omega
          go_wp2_with fail
          refine (fine_p true (by rfl) HRP.out).mono ?_
          rintro e w' ⟨rfl, rfl⟩
          have hrF := ((hr0.set 0 (.int .i64 0)).set 1 (.int .i64 0)).set 2 (.slice none 0 0)
          have huF : Upd [w.heap.size] wr (((wr.setCell ⟨w.heap.size, 0, none⟩ (.int .i64 0)).setCell ⟨w.heap.size, 1, none⟩ (.int .i64 0)).setCell ⟨w.heap.size, 2, none⟩ (.slice none 0 0)) :=
            (((Upd.refl _ _).setCell _ _ _ (.inl (by simp))).setCell _ _ _ (.inl (by simp))).setCell _ _ _ (.inl (by simp))
          obtain ⟨wf, hwf⟩ : ∃ wf, ((wr.setCell ⟨w.heap.size, 0, none⟩ (.int .i64 0)).setCell ⟨w.heap.size, 1, none⟩ (.int .i64 0)).setCell ⟨w.heap.size, 2, none⟩ (.slice none 0 0) = wf := ⟨_, rfl⟩
          rw [hwf] at hrF huF
          have g0 : wf.cell? ⟨w.heap.size, 0, none⟩ = some (.int .i64 0) := hrF.cell (i := 0) (by omega)
          have g1 : wf.cell? ⟨w.heap.size, 1, none⟩ = some (.int .i64 0) := hrF.cell (i := 1) (by omega)
          have g2 : wf.cell? ⟨w.heap.size, 2, none⟩ = some (.slice none 0 0) := hrF.cell (i := 2) (by omega)
          have hbF : Below w.heap.size w wf := (HU.out.trans' huF (fun b hb => .inr (by simp at hb; omega))).to_below (Nat.le_refl _) (by simp)
          have HBF := Lib.hid hbF
          have HUF := Lib.hid huF
          clear hrF huF hbF
          go_wp2_with fail
          exact bodyPost_ret (v := .agg #[.int .i64 0, .int .i64 0, .slice none 0 0]) (by simp [results, Tryz.results103, go_sem, g0, g1, g2]) rfl ⟨by rw [HPN.out]; exact rfl, HBF.out⟩
        · have j4 : ¬ (p : Int) < (nl : Int) := by omega
          have j5 : ¬ (kL : Int) = (z2 : Int) := by omega
          have j6 : ¬ kL = z2 := by omega
          go_wp2_with fail
          refine (fine_p true (by rfl) HRP.out).mono ?_
          rintro e w' ⟨rfl, rfl⟩
          have hrF := ((hr0.set 0 (.int .i64 0)).set 1 (.int .i64 0)).set 2 (.slice none 0 0)
          have huF : Upd [w.heap.size] wr (((wr.setCell ⟨w.heap.size, 0, none⟩ (.int .i64 0)).setCell ⟨w.heap.size, 1, none⟩ (.int .i64 0)).setCell ⟨w.heap.size, 2, none⟩ (.slice none 0 0)) :=
            (((Upd.refl _ _).setCell _ _ _ (.inl (by simp))).setCell _ _ _ (.inl (by simp))).setCell _ _ _ (.inl (by simp))
          obtain ⟨wf, hwf⟩ : ∃ wf, ((wr.setCell ⟨w.heap.size, 0, none⟩ (.int .i64 0)).setCell ⟨w.heap.size, 1, none⟩ (.int .i64 0)).setCell ⟨w.heap.size, 2, none⟩ (.slice none 0 0) = wf := ⟨_, rfl⟩
          rw [hwf] at hrF huF
          have g0 : wf.cell? ⟨w.heap.size, 0, none⟩ = some (.int .i64 0) := hrF.cell (i := 0) (by omega)
          have g1 : wf.cell? ⟨w.heap.size, 1, none⟩ = some (.int .i64 0) := hrF.cell (i := 1) (by omega)
          have g2 : wf.cell? ⟨w.heap.size, 2, none⟩ = some (.slice none 0 0) := hrF.cell (i := 2) (by omega)
          have hbF : Below w.heap.size w wf := (HU.out.trans' huF (fun b hb => .inr (by simp at hb; omega))).to_below (Nat.le_refl _) (by simp)
          have HBF := Lib.hid hbF
          have HUF := Lib.hid huF
          clear hrF huF hbF
          go_wp2_with fail
          exact bodyPost_ret (v := .agg #[.int .i64 0, .int .i64 0, .slice none 0 0]) (by simp [results, Tryz.results103, go_sem, g0, g1, g2]) rfl ⟨by rw [HPN.out]; exact rfl, HBF.out⟩
    · have hkz : kL = z2 := by omega
      have HKZ := Lib.hid hkz
      have c0 := hrb.cell (i := 0) (by omega)
      have c1 := hrb.cell (i := 1) (by omega)
      have c2 := hrb.cell (i := 2) (by omega)
      rw [show btF bn z4 u 0 = .int .i64 bn from rfl] at c0
      rw [show btF bn z4 u 1 = .int .i64 z4 from rfl] at c1
      rw [show btF bn z4 u 2 = u from rfl] at c2
      have e0 := hr0.cell (i := 0) (by omega)
      have e1 := hr0.cell (i := 1) (by omega)
      have e2 := hr0.cell (i := 2) (by omega)
      have f0 := hr0.frozen 0
      have f1 := hr0.frozen 1
      have f2 := hr0.frozen 2
      obtain ⟨cs, hcs⟩ := hro
      obtain ⟨ua, uc, rfl⟩ := owns_shape hcs.1
      rw [hkL] at c2
      have HCS := Lib.hid hcs
      have HU := Lib.hid hu
      have hbbr := hrb.lt
      have h0r := hr0.lt
      have hne0 : ¬ bb = w.heap.size := by omega
      have hne1 : ¬ w.heap.size = bb := by omega
      clear hu hcs
      rw [hkz] at c2
      have j1 : ¬ (z2 : Int) < (z2 : Int) := by omega
      have j1' : ¬ (kL : Int) < (z2 : Int) := by omega
      cases op with
      | none =>
        have HPN : Hid (parseR xs = none) := by show _ = _; rw [HPG2.out]; rfl
        clear hkz
        go_wp2_with fail
        refine (fine_p false (by rfl) HRP.out).mono ?_
        rintro e w' ⟨rfl, rfl⟩
        have hrF := ((hr0.set 0 (.int .i64 0)).set 1 (.int .i64 0)).set 2 (.slice none 0 0)
        have huF : Upd [w.heap.size] wr (((wr.setCell ⟨w.heap.size, 0, none⟩ (.int .i64 0)).setCell ⟨w.heap.size, 1, none⟩ (.int .i64 0)).setCell ⟨w.heap.size, 2, none⟩ (.slice none 0 0)) :=
          (((Upd.refl _ _).setCell _ _ _ (.inl (by simp))).setCell _ _ _ (.inl (by simp))).setCell _ _ _ (.inl (by simp))
        obtain ⟨wf, hwf⟩ : ∃ wf, ((wr.setCell ⟨w.heap.size, 0, none⟩ (.int .i64 0)).setCell ⟨w.heap.size, 1, none⟩ (.int .i64 0)).setCell ⟨w.heap.size, 2, none⟩ (.slice none 0 0) = wf := ⟨_, rfl⟩
        rw [hwf] at hrF huF
        have g0 : wf.cell? ⟨w.heap.size, 0, none⟩ = some (.int .i64 0) := hrF.cell (i := 0) (by omega)
        have g1 : wf.cell? ⟨w.heap.size, 1, none⟩ = some (.int .i64 0) := hrF.cell (i := 1) (by omega)
        have g2 : wf.cell? ⟨w.heap.size, 2, none⟩ = some (.slice none 0 0) := hrF.cell (i := 2) (by omega)
        have hbF : Below w.heap.size w wf := (HU.out.trans' huF (fun b hb => .inr (by simp at hb; omega))).to_below (Nat.le_refl _) (by simp)
        have HBF := Lib.hid hbF
        have HUF := Lib.hid huF
        clear hrF huF hbF
        go_wp2_with fail
        exact bodyPost_ret (v := .agg #[.int .i64 0, .int .i64 0, .slice none 0 0]) (by simp [results, Tryz.results103, go_sem, g0, g1, g2]) rfl ⟨by rw [HPN.out]; exact rfl, HBF.out⟩
      | some p =>
        have hrv : RfV wr r (.slice (some ⟨gv, ov, none⟩) nl cv) xs p := HRP.out
        have cp := hrv.c1
        have hpl := hrv.le
        rw [HNL.out] at hpl
        clear hrv
        have hpg0 : parseR xs = if 65 < z2 ∨ p < xs.length then none else some ⟨bn, z4, L⟩ := by
          rw [HPG2.out, HKL.out, hkz, Nat.sub_self]
          unfold pgo
          rw [Option.bind_some, show rdRcs xs 0 tn p = some ([], p) from rfl]
          show (if _ then _ else _) = _
          rw [List.append_nil]
        by_cases hpn : p < nl
        · have j4 : (p : Int) < (nl : Int) := by omega
          have HPN : Hid (parseR xs = none) := by show _ = _; rw [hpg0, if_pos (.inr (by rw [HNL.out]; exact hpn))]
          clear hpg0 hkz
          go_wp2_with fail
          refine (fine_p true (by rfl) HRP.out).mono ?_
          rintro e w' ⟨rfl, rfl⟩
          have hrF := ((hr0.set 0 (.int .i64 0)).set 1 (.int .i64 0)).set 2 (.slice none 0 0)
          have huF : Upd [w.heap.size] wr (((wr.setCell ⟨w.heap.size, 0, none⟩ (.int .i64 0)).setCell ⟨w.heap.size, 1, none⟩ (.int .i64 0)).setCell ⟨w.heap.size, 2, none⟩ (.slice none 0 0)) :=
            (((Upd.refl _ _).setCell _ _ _ (.inl (by simp))).setCell _ _ _ (.inl (by simp))).setCell _ _ _ (.inl (by simp))
          obtain ⟨wf, hwf⟩ : ∃ wf, ((wr.setCell ⟨w.heap.size, 0, none⟩ (.int .i64 0)).setCell ⟨w.heap.size, 1, none⟩ (.int .i64 0)).setCell ⟨w.heap.size, 2, none⟩ (.slice none 0 0) = wf := ⟨_, rfl⟩
          rw [hwf] at hrF huF
          have g0 : wf.cell? ⟨w.heap.size, 0, none⟩ = some (.int .i64 0) := hrF.cell (i := 0) (by omega)
          have g1 : wf.cell? ⟨w.heap.size, 1, none⟩ = some (.int .i64 0) := hrF.cell (i := 1) (by omega)
          have g2 : wf.cell? ⟨w.heap.size, 2, none⟩ = some (.slice none 0 0) := hrF.cell (i := 2) (by omega)
          have hbF : Below w.heap.size w wf := (HU.out.trans' huF (fun b hb => .inr (by simp at hb; omega))).to_below (Nat.le_refl _) (by simp)
          have HBF := Lib.hid hbF
          have HUF := Lib.hid huF
          clear hrF huF hbF
          go_wp2_with fail
          exact bodyPost_ret (v := .agg #[.int .i64 0, .int .i64 0, .slice none 0 0]) (by simp [results, Tryz.results103, go_sem, g0, g1, g2]) rfl ⟨by rw [HPN.out]; exact rfl, HBF.out⟩
        · have j4 : ¬ (p : Int) < (nl : Int) := by omega
          have HPS : Hid (parseR xs = some ⟨bn, z4, L⟩) := by show _ = _; rw [hpg0, if_neg (by rw [HNL.out]; omega)]
          clear hpg0 hkz
          go_wp2_with fail
          refine (fine_p true (by rfl) HRP.out).mono ?_
          rintro e w' ⟨rfl, rfl⟩
          have hrF := ((hr0.set 0 (.int .i64 bn)).set 1 (.int .i64 z4)).set 2 (.slice ua z2 uc)
          have huF : Upd [w.heap.size] wr (((wr.setCell ⟨w.heap.size, 0, none⟩ (.int .i64 bn)).setCell ⟨w.heap.size, 1, none⟩ (.int .i64 z4)).setCell ⟨w.heap.size, 2, none⟩ (.slice ua z2 uc)) :=
            (((Upd.refl _ _).setCell _ _ _ (.inl (by simp))).setCell _ _ _ (.inl (by simp))).setCell _ _ _ (.inl (by simp))
          obtain ⟨wf, hwf⟩ : ∃ wf, ((wr.setCell ⟨w.heap.size, 0, none⟩ (.int .i64 bn)).setCell ⟨w.heap.size, 1, none⟩ (.int .i64 z4)).setCell ⟨w.heap.size, 2, none⟩ (.slice ua z2 uc) = wf := ⟨_, rfl⟩
          rw [hwf] at hrF huF
          have g0 : wf.cell? ⟨w.heap.size, 0, none⟩ = some (.int .i64 bn) := hrF.cell (i := 0) (by omega)
          have g1 : wf.cell? ⟨w.heap.size, 1, none⟩ = some (.int .i64 z4) := hrF.cell (i := 1) (by omega)
          have g2 : wf.cell? ⟨w.heap.size, 2, none⟩ = some (.slice ua z2 uc) := hrF.cell (i := 2) (by omega)
          have hbF : Below w.heap.size w wf := (HU.out.trans' huF (fun b hb => .inr (by simp at hb; omega))).to_below (Nat.le_refl _) (by simp)
          have HBF := Lib.hid hbF
          have HUF := Lib.hid huF
          clear hrF huF hbF
          have hroF : RcO wf w.heap.size (.slice ua L.length uc) L N :=
            RcO.sub ⟨cs, HCS.out.upd HUF.out (fun b hb => .inl (by simp at hb; simp [hb]))⟩ (fun b hb => by simp [hb])
          rw [HKL.out, HKZ.out] at hroF
          have HROF := Lib.hid hroF
          clear hroF
          go_wp2_with fail
          refine bodyPost_ret (v := .agg #[.int .i64 bn, .int .i64 z4, .slice ua z2 uc]) (by simp [results, Tryz.results103, go_sem, g0, g1, g2]) rfl ⟨?_, HBF.out⟩
          rw [HPS.out]
          exact ⟨_, rfl, HROF.out, by show L.length ≤ _; rw [HKL.out]; exact hL65, HLB.out⟩
end Go.Proofs.YtncjffkpkmjgkaaGreatDoor.Sg

/-! Uo -/
namespace Go.Proofs.YtncjffkpkmjgkaaGreatDoor.Sg
open Go.RowKit Er Go.Maps

theorem hasB_parts {xs rest : List Nat} {x : Bt} (hx : BtOk x) (e : xs = batB x ++ rest) :
    leV (xs.take 4) = (bodyB x).length ∧ leV ((xs.drop 4).take 4) = crcF 0 (bodyB x) ∧ (xs.drop 8).take (bodyB x).length = bodyB x ∧ 8 + (bodyB x).length ≤ xs.length ∧ xs.take (8 + (bodyB x).length) = batB x := by
  have hbl := bodyB_len x hx
  have hf : xs = leB (bodyB x).length 4 ++ (leB (crcF 0 (bodyB x)) 4 ++ (bodyB x ++ rest)) := by rw [e]; simp [batB, List.append_assoc]
  have h4 : xs.drop 4 = leB (crcF 0 (bodyB x)) 4 ++ (bodyB x ++ rest) := by rw [hf]; exact drop_len _ _ _ (leB_len _ _)
  have h8 : xs.drop 8 = bodyB x ++ rest := by rw [show (8 : Nat) = 4 + 4 from rfl, ← List.drop_drop, h4]; exact drop_len _ _ _ (leB_len _ _)
  have hc := crcF_lt 0 (bodyB x)
  refine ⟨?_, ?_, by rw [h8, List.take_left], by rw [e, List.length_append, batB_len]; omega, by rw [e, ← batB_len x, List.take_left]⟩
  · rw [hf, List.take_left' (leB_len _ _), leV_leB]; omega
  · rw [h4, List.take_left' (leB_len _ _), leV_leB]; omega
theorem hasB_of {xs : List Nat} {x : Bt} (hx : BtOk x) (hb : BtBy x) {n : Nat} (e : xs.take n = batB x) : HasB xs := ⟨x, xs.drop n, hx, hb, by rw [← e, List.take_append_drop]⟩
theorem vcode_nil : vcode ⟨0, 0, []⟩ = 104 := by decide

set_option maxRecDepth 100000 in
set_option maxHeartbeats 400000 in
theorem samebytes_diff (v1 v2 : Value) (xs ys : List Nat) (w : World) (h1 : SlB w v1 xs) (h2 : SlB w v2 ys) (hne : xs ≠ ys) (hx9 : xs.length ≤ 1099511627776) :
    Calls Tryz.prog 20 #[v1, v2] w fun e w' => e = .returned (.bool false) ∧ Below w.heap.size w w' := by
  have H1 := Lib.hid h1
  have H2 := Lib.hid h2
  obtain ⟨va, vc, rfl, -⟩ := h1.shape
  obtain ⟨ua, uc, rfl, -⟩ := h2.shape
  have HNE := Lib.hid hne
  clear h1 h2 hne
  by_cases hl : xs.length = ys.length
  · obtain ⟨n, hn⟩ : ∃ n, ys.length = n := ⟨_, rfl⟩
    have hnx : xs.length = n := hl.trans hn
    have HN := Lib.hid hn
    have HNX := Lib.hid hnx
    rw [hnx] at hx9 ⊢
    rw [hn]
    clear hl hn hnx
    go_enter Tryz.func20, Tryz.ntmps20
    go_wp2_with fail
    go_loopg [5] n (fun m j wr => ∃ k : Nat, k + m = n ∧ j = .int .i64 k ∧ Below w.heap.size w wr ∧ xs.take k = ys.take k)
    case atStart => exact ⟨0, by omega, rfl, Below.refl _ _, rfl⟩
    case round =>
      obtain ⟨k, hk, rfl, hb, htk⟩ := hrel
      by_cases hlt : k < n
      · have hx : k < xs.length := by rw [HNX.out]; exact hlt
        have hy : k < ys.length := by rw [HN.out]; exact hlt
        obtain ⟨g1, o1, c1, hv1, -, hc1⟩ := slB_cell (H1.out.below hb rfl) hx
        obtain ⟨g2, o2, c2, hv2, -, hc2⟩ := slB_cell (H2.out.below hb rfl) hy
        rw [HNX.out] at hv1
        rw [HN.out] at hv2
        cases hv1
        cases hv2
        obtain ⟨a, ha⟩ : ∃ a, xs[k] = a := ⟨_, rfl⟩
        obtain ⟨b, hb'⟩ : ∃ a, ys[k] = a := ⟨_, rfl⟩
        rw [ha] at hc1
        rw [hb'] at hc2
        have i1 : (0 : Int) ≤ (k : Int) := by omega
        have i2 : (k : Int) < (n : Int) := by omega
        by_cases hab : a = b
        · subst hab
          have htk2 : xs.take (k + 1) = ys.take (k + 1) := by rw [List.take_add_one, List.take_add_one, htk, List.getElem?_eq_getElem hx, List.getElem?_eq_getElem hy, ha, hb']
          have HT := Lib.hid htk2
          obtain ⟨gj, rfl⟩ : ∃ x, gk = x + 1 := ⟨gk - 1, by omega⟩
          clear htk htk2 ha hb' hx hy
          go_wp2_with fail
          go_quiet (fail)
          go_wp2_with fail
          go_roundg gj
          case measure => omega
          case rel => exact ⟨k + 1, by omega, by go_num, below_drewN hb _, HT.out⟩
        · have hab2 : ¬ (a : Int) = (b : Int) := by omega
          have hab3 : ((a : Int) == (b : Int)) = false := beq_eq_false_iff_ne.2 hab2
          clear htk ha hb' hx hy
          go_wp2_with fail
          go_quiet (fail)
          go_wp2_with fail
          go_ret
          exact ⟨rfl, below_drewN hb _⟩
      · have hkn : k = n := by omega
        exact absurd (by rw [hkn, List.take_of_length_le (by rw [HNX.out]; exact Nat.le_refl _), List.take_of_length_le (by rw [HN.out]; exact Nat.le_refl _)] at htk; exact htk) HNE.out
  · have hl2 : ¬ (xs.length : Int) = (ys.length : Int) := by omega
    go_enter Tryz.func20, Tryz.ntmps20
    go_wp2_with fail
    go_ret
    exact ⟨rfl, Below.refl _ _⟩
theorem samebytes_dec (v1 v2 : Value) (xs ys : List Nat) (b : Bool) (hb : decide (xs = ys) = b) (w : World) (h1 : SlB w v1 xs) (h2 : SlB w v2 ys) (hx9 : xs.length ≤ 1099511627776) :
    Calls Tryz.prog 20 #[v1, v2] w fun e w' => e = .returned (.bool b) ∧ Below w.heap.size w w' := by
  subst hb
  by_cases h : xs = ys
  · subst h
    refine (samebytes_ok v1 v2 xs w h1 h2 hx9).mono ?_
    rintro e w' ⟨rfl, h3⟩
    exact ⟨by simp, h3⟩
  · refine (samebytes_diff v1 v2 xs ys w h1 h2 h hx9).mono ?_
    rintro e w' ⟨rfl, h3⟩
    exact ⟨by simp [h], h3⟩
end Go.Proofs.YtncjffkpkmjgkaaGreatDoor.Sg
