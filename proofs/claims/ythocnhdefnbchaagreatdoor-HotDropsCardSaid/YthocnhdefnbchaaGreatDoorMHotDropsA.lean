/- cordwoodlaw10.all, joined; Row's batches of at most thirty numbers; the segments' triples. hot.Open of a bad config; Log.Begin of a log that has a segment; Log.Flush, Log.Synced. A log that is cut while the power may go, behind a crash: plain. disk.Arm, disk.Down; cordwoodlaw10.at; Flush, once more. Log.Drop. -/
import Derived.Test.YthocnhdefnbchaaGreatDoorMl
import Derived.Test.YthocnhdefnbchaaGreatDoorMg
import Derived.Test.YthocnhdefnbchaaGreatDoorMi
import Derived.Test.YthocnhdefnbchaaGreatDoorMe
import Derived.Test.YthocnhdefnbchaaGreatDoorMq
import Derived.Test.YthocnhdefnbchaaGreatDoorMn
import Derived.Test.YthocnhdefnbchaaGreatDoorMk
import Derived.ChangeKeysEq

/-! Hr -/
namespace Go.Proofs.YthocnhdefnbchaaGreatDoor.Sg
open Go.RowKit Er Go.Maps

theorem row_rn (every : Nat) : ∀ (l : List Int) (i : Nat) (a : Int), ∀ x, x ∈ rowGo every l i a → x.r.length ≤ 5
  | [], _, _, x, hx => by cases hx
  | s :: l, i, a, x, hx => by
    rcases List.mem_cons.1 hx with rfl | hx
    · rw [rBt_len]; exact (rN_pos s).2
    · exact row_rn every l _ _ x hx
theorem szB_le5 (x : Bt) (h : BtOk x) (hr : x.r.length ≤ 5) : szB x ≤ 3200 := by
  have h0 := batB_len x
  have h1 := bodyR_len (t0 x) x.r (t0_in x h) h.rs
  have h2 := vput_len64 (zig (t0 x)) (by have := t0_in x h; have := zig_lt (t0 x) (by omega) (by omega); omega)
  have h3 : (bodyB x).length ≤ 3100 := by simp [bodyB, headB, leB_len]; omega
  unfold szB; omega
theorem row30 (every : Nat) (xs : List Int) (base : Nat) (hb : base ≤ 1073741824) (hx : xs.length ≤ 30) : Chain base 0 (rowGo every xs 0 base) ∧ (∀ x, x ∈ rowGo every xs 0 base → BtOk x ∧ BtBy x) ∧ sizes (rowGo every xs 0 base) ≤ 96000 := by
  have hok := row_ok every xs 0 base (by omega) (by omega) (by omega)
  refine ⟨row_chain every xs 0 base 0 (by have := (rEp_mono every 0).2; omega), hok, ?_⟩
  have h : ∀ L : List Bt, (∀ x, x ∈ L → szB x ≤ 3200) → sizes L ≤ L.length * 3200 := by
    intro L
    induction L with
    | nil => intro _; simp [sizes]
    | cons x L ih =>
      intro h
      have h1 := h x List.mem_cons_self
      have h2 := ih (fun y hy => h y (List.mem_cons_of_mem _ hy))
      simp only [sizes, List.map_cons, List.sum_cons, List.length_cons] at h2 ⊢
      omega
  have h1 := h _ (fun x hx => szB_le5 x (hok x hx).1 (row_rn every xs 0 base x hx))
  rw [row_len] at h1
  omega

theorem row_m {P : Pm} {F : Mm} {w : World} (hH : Hp w P F) (a : Option Addr) (xs : List Int) (c n : Nat) (hn : xs.length = n) (hr : Pers P (fun w => IntsR w a xs)) (every : Nat) (he : every ≤ 1000000) (hx : n ≤ 1000000) (base : Int) (h0 : 0 ≤ base) (h1 : base ≤ 1099511627776) :
    Calls Tryz.prog 25 #[.int .i64 base, .slice a n c, .int .i64 every] w fun e w' => ∃ v P' out, e = .returned v ∧ Sub P P' ∧ out.map (·.1) = rowGo every xs 0 base ∧ BtsP P' v out ∧ Hp w' P' F := by
  subst hn
  exact row_p hH a xs c hr every he hx base h0 h1

/-- Two triples alike are equal. -/
theorem eqTri (u0 u1 u2 : Int) (w : World) : Sem.run Tryz.prog (Op.equalIn 10000 61 (.agg #[.int .i64 u0, .int .i64 u1, .int .i64 u2]) (.agg #[.int .i64 u0, .int .i64 u1, .int .i64 u2])) w = .ok true w := by
  obtain ⟨i, hi⟩ := info_of_underlying Tryz.underlying2
  have h := run_equalIn_array (P := Tryz.prog) w 9999 (t := 61) #[.int .i64 u0, .int .i64 u1, .int .i64 u2] #[.int .i64 u0, .int .i64 u1, .int .i64 u2] (n := 3) (e := 2) Tryz.underlying61 hi
  have hc : Tryz.prog.cellsOf 2 = 1 := by kernel_rfl
  rw [h, hc, show List.range 3 = [0, 1, 2] from rfl]
  simp [Op.eqItems, part, go_sem]

/-- Triples of lists of batches one behind the other. -/
def triL : Int → List (List Bt) → List Tri
  | _, [] => []
  | b, m :: ms => (b, endOf b m, sizes m) :: triL (endOf b m) ms
theorem triL_snoc : ∀ (ms : List (List Bt)) (b : Int) (m : List Bt), triL b (ms ++ [m]) = triL b ms ++ [(endOf b ms.flatten, endOf b (ms ++ [m]).flatten, sizes m)]
  | [], b, m => by simp [triL, endOf]
  | x :: ms, b, m => by
    show (b, endOf b x, sizes x) :: triL (endOf b x) (ms ++ [m]) = _
    rw [triL_snoc ms]
    simp only [List.flatten_cons, List.cons_append, endOf_app, triL, List.flatten_append]
theorem triL_len : ∀ (ms : List (List Bt)) (b : Int), (triL b ms).length = ms.length
  | [], _ => rfl
  | m :: ms, b => by simp [triL, triL_len ms]
theorem lk_tri : ∀ (L : List (Nat × Sg)) (b : Int), Lk b (L.map (·.2)) → L.map (fun p => triG p.2) = triL b (L.map (·.2.l))
  | [], _, _ => rfl
  | p :: L, b, ⟨h1, _, h3⟩ => by
    have := lk_tri L _ h3
    rw [List.map_cons, List.map_cons, this]
    show (triG p.2 :: triL p.2.end_ (L.map (·.2.l))) = (b, endOf b p.2.l, sizes p.2.l) :: triL (endOf b p.2.l) (L.map (·.2.l))
    rw [← h1, ← end_eq]; rfl

section
variable {S : List Nat} {E : Nat → Addr} {B : Nat} {P : Pm} {h : Nat} {H : Hl} {D : Dk} {A Ad F : Mm} {w : World} {b0 : Int} {l : List Bt}

/-- Where one stands behind so many segments: at the end, or ahead of a segment that has batches. -/
theorem HotOn.upto (hO : HotOn D H b0 l) (k : Nat) (hk : k ≤ H.L.length) :
    (endOf b0 ((H.L.take k).map (·.2.l)).flatten = endOf b0 l ∧ ((H.L.take k).map (·.2.l)).flatten = l) ∨
    ∃ (hk : k < H.L.length), endOf b0 ((H.L.take k).map (·.2.l)).flatten < endOf b0 l ∧ ((H.L[k]).2.base : Int) = endOf b0 ((H.L.take k).map (·.2.l)).flatten ∧ (H.L[k]).2.l ≠ [] := by
  by_cases hkn : k < H.L.length
  · have hsp : H.L = H.L.take k ++ ((H.L[k]).1, (H.L[k]).2) :: H.L.drop (k + 1) := HlM.nth k hkn
    obtain ⟨h1, h2, h3, h4, h5⟩ := hO.split hsp
    by_cases he : (H.L[k]).2.l = []
    · left
      have hd : H.L.drop (k + 1) = [] := Classical.byContradiction fun hd => by
        have hk2 := hO.lk
        rw [hsp, List.map_append, List.map_cons] at hk2
        exact (hk2.app.2.1 (by simpa using hd)).1 he
      rw [hd, he] at h5
      have h6 : ((H.L.take k).map (·.2.l)).flatten = l := by rw [h5]; simp
      exact ⟨by rw [h6], h6⟩
    · right
      refine ⟨hkn, ?_, h2, he⟩
      have hr : ∀ x, x ∈ ((H.L.drop (k + 1)).map (·.2.l)).flatten → 1 ≤ x.r.length := fun x hx => (hO.ok x (by rw [h5]; simp only [List.mem_append]; exact .inr (.inr hx))).1.n1
      have hg := chain_ge _ _ _ h4 hr
      have hs := hO.segend (p := ((H.L[k]).1, (H.L[k]).2)) (show H.L[k] ∈ H.L from List.getElem_mem hkn)
      have hl : 0 < (H.L[k]).2.l.length := List.length_pos_iff.2 he
      have e1 : endOf b0 l = endOf (H.L[k]).2.end_ ((H.L.drop (k + 1)).map (·.2.l)).flatten := by
        conv => lhs; rw [h5, endOf_app, endOf_app, ← h2, ← end_eq]
      rw [e1, ← h2]
      dsimp only at hs
      omega
  · left
    have e : H.L.take k = H.L := List.take_of_length_le (by omega)
    rw [e, hO.fl]
    exact ⟨rfl, rfl⟩
theorem perm_t (A B C E : Mm) : List.Perm (A ++ (B ++ (C ++ E))) (C ++ (A ++ (B ++ E))) := by
  have := perm_mid (A ++ B) C E
  simpa [List.append_assoc] using this

/-- What holds at the head of all's loop. -/
def All10Rel (P : Pm) (F A Ad : Mm) (H : Hl) (b0 : Int) (m : Nat) (vo va : Value) (w : World) : Prop :=
  ∃ (k : Nat) (P' : Pm) (out : List (Bt × Value)) (Ao : Mm), k + m = H.L.length ∧ va = .int .i64 (endOf b0 ((H.L.take k).map (·.2.l)).flatten) ∧ Sub P P' ∧ BtsM P' vo ((H.L.take k).map (·.2.l)).flatten out Ao ∧ Hp w P' (A ++ (Ad ++ (Ao ++ F)))

set_option maxRecDepth 100000 in
set_option maxHeartbeats 2000000 in
theorem all10_ok (C : Ctx S E B P) (hM : HlM h H A) (hO : HotOn D H b0 l) (hne : H.L ≠ []) (hD : DkM P H.d D Ad) (hsz : sizes l ≤ 1048576) (hll : l.length ≤ 1000) (hH : Hp w P (A ++ (Ad ++ F))) :
    Calls Tryz.prog 41 #[ptr h] w fun e w' => ∃ v out P', e = .returned (.tuple #[v, .bool true]) ∧ Sub P P' ∧ out.map (·.1) = l ∧ BtsP P' v out ∧ Hp w' P' (A ++ (Ad ++ F)) := by
  have hst := hO.hstart hne
  have hen := hO.hend hne
  have HST := Lib.hid hst
  have HEN := Lib.hid hen
  have HM := Lib.hid hM
  have HO := Lib.hid hO
  have HD := Lib.hid hD
  have H0 := Lib.hid hH
  have HSZ := Lib.hid hsz
  clear hst hen hM hO hD hH hsz hne
  obtain ⟨en, hen2⟩ : ∃ en, endOf b0 l = en := ⟨_, rfl⟩
  go_enter Tryz.func41, Tryz.ntmps41
  go_wp2_with fail
  refine (hstart_ok HM.out HO.out.W H0.out).mono ?_
  rintro e w1 ⟨rfl, hH1⟩
  rw [HST.out]
  have H1 := Lib.hid hH1
  clear hH1
  go_wp2_with fail
  go_loopg [4, 5] H.L.length (fun m vo va wr => All10Rel P F A Ad H b0 m vo va wr)
  case atStart => exact ⟨0, P, [], [], by omega, rfl, Sub.refl _, BtsM.nil P, H1.out⟩
  case round =>
    obtain ⟨k, P1, out, Ao, hk, rfl, hs1, hB, hHr⟩ := hrel
    obtain ⟨va, vc, rfl⟩ := hB.row.shape
    rcases HO.out.upto k (by omega) with ⟨heq, hfl⟩ | ⟨hkn, hlt, hbase, hgl⟩
    · rw [heq]
      have HR := Lib.hid hHr
      have HB := Lib.hid hB
      have HS1 := Lib.hid hs1
      have HFL := Lib.hid hfl
      rw [hen2]
      rw [hfl]
      clear hHr hB hs1 hfl heq
      go_wp2_with fail
      refine (hend_ok HM.out HO.out.W HR.out).mono ?_
      rintro e w2 ⟨rfl, hH2⟩
      rw [HEN.out, hen2]
      have H2 := Lib.hid hH2
      clear hH2
      go_wp2_with fail
      go_ret2
      obtain ⟨P2, hs2, hb2, hH3⟩ := HB.out.seal (H2.out.perm (perm_t A Ad Ao F))
      have hmm := HB.out.map.trans HFL.out
      rw [HFL.out] at hb2
      exact ⟨.slice va l.length vc, out, P2, rfl, HS1.out.trans hs2, hmm, hb2, hH3⟩
    · obtain ⟨gj, rfl⟩ : ∃ x, gk = x + 1 := ⟨gk - 1, by omega⟩
      rw [hen2] at hlt
      have hsp : H.L = H.L.take k ++ ((H.L[k]).1, (H.L[k]).2) :: H.L.drop (k + 1) := HlM.nth k hkn
      have hch := HO.out.chain hsp
      have hgm : ((H.L[k]).1, (H.L[k]).2) ∈ H.L := (show H.L[k] ∈ H.L from List.getElem_mem hkn)
      have hse := HO.out.segend hgm
      have hsg := sum_sub H.L _ hgm
      rw [HO.out.fl] at hsg
      have hokG := (HO.out.sg _ hgm).1.ok
      have hbyG := (HO.out.sg _ hgm).1.by_
      have htk : ((H.L.take (k + 1)).map (·.2.l)).flatten = ((H.L.take k).map (·.2.l)).flatten ++ (H.L[k]).2.l := by rw [take_next H.L k hkn]; simp only [List.map_append, List.map_cons, List.map_nil, List.flatten_append, List.flatten_cons, List.flatten_nil, List.append_nil]
      have hlen2 : ((H.L.take k).map (·.2.l)).flatten.length + (H.L[k]).2.l.length ≤ 1000 := by
        have h5 := (HO.out.split hsp).2.2.2.2
        have := congrArg List.length h5
        simp only [List.length_append] at this
        omega
      obtain ⟨s, hs⟩ : ∃ s, (H.L[k]).1 = s := ⟨_, rfl⟩
      obtain ⟨G, hG⟩ : ∃ G, (H.L[k]).2 = G := ⟨_, rfl⟩
      rw [hG] at hgl hbase hch hse hsg hokG hbyG htk hlen2
      rw [hs, hG] at hsp
      try dsimp only at hse hsg hokG hbyG
      obtain ⟨g0, x, hgx⟩ : ∃ g0 x, G.l = g0 ++ [x] := by
        rcases snoc_cases G.l with h0 | h0
        · exact absurd h0 hgl
        · exact h0
      have hxo : BtOk x := hokG x (by rw [hgx]; simp)
      have hend2 : endOf b0 ((H.L.take (k + 1)).map (·.2.l)).flatten = x.b + x.r.length := by rw [htk, hgx, ← List.append_assoc, endOf_snoc]
      have hgl1 : 0 < G.l.length := List.length_pos_iff.2 hgl
      have hall : rdGo G.base 1048576 G.l [] 0 = G.l := rdGo_all G.base 1048576 G.l [] 0 _ _ hch (Int.le_refl _) (fun y hy => (hokG y hy).n1) (by have := HSZ.out; omega)
      obtain ⟨P0, hP0⟩ : ∃ z, ((H.L.take k).map (·.2.l)).flatten = z := ⟨_, rfl⟩
      rw [hP0] at hlt hB hbase htk hlen2
      rw [← hbase] at hlt
      rw [hP0, ← hbase]
      have hss : G.base < G.end_ := by omega
      have HR := Lib.hid (hHr)
      have HB := Lib.hid hB
      have HS1 := Lib.hid hs1
      have HALL := Lib.hid hall
      have HSP := Lib.hid hsp
      have HTK := Lib.hid htk
      have HGX := Lib.hid hgx
      have HE2 := Lib.hid hend2
      have HXO := Lib.hid hxo
      have HLE := Lib.hid hlen2
      have HP0 := Lib.hid hP0
      clear hHr hB hs1 hall hsp htk hgx hend2 hxo hlen2 hch hgm hsg hokG hbyG hG hs hbase hP0
      go_wp2_with fail
      refine (hend_ok HM.out HO.out.W HR.out).mono ?_
      rintro e w2 ⟨rfl, hH2⟩
      rw [HEN.out, hen2]
      have H2 := Lib.hid hH2
      clear hH2
      go_wp2_with fail
      refine (hread_seg (C.sub HS1.out) HM.out HO.out (HD.out.sub HS1.out) HSP.out G.base 1048576 (Int.le_refl _) hss (by decide) (by decide) H2.out).mono ?_
      rintro e w3 ⟨v3, out3, P3, rfl, hs3, hm3, hb3, hH3⟩
      rw [HALL.out] at hm3
      obtain ⟨sa, sc, rfl, hsc⟩ := hb3.shape
      have hol : out3.length = G.l.length := by rw [← hm3, List.length_map]
      rw [hol] at hb3 hsc ⊢
      have hj : G.l.length - 1 < out3.length := by omega
      obtain ⟨g, off, cap, hvv, hcap, hbc⟩ := hb3.at_ hj
      have hx3 : (out3[G.l.length - 1]'hj).1 = x := by
        have h1 : (out3.map (·.1))[G.l.length - 1]? = some x := by rw [hm3, HGX.out]; simp
        rw [List.getElem?_map, List.getElem?_eq_getElem hj] at h1
        simpa using h1
      have H3 := Lib.hid (hH3.perm (perm_t A Ad Ao F))
      have HB3 := Lib.hid hb3
      have HS3 := Lib.hid hs3
      have HBC := Lib.hid hbc
      have HM3 := Lib.hid hm3
      have HX3 := Lib.hid hx3
      have HOL := Lib.hid hol
      have hne3 : (G.l.length : Int) ≠ 0 := by omega
      simp only [hol] at hvv
      simp only [Value.slice.injEq] at hvv
      obtain ⟨rfl, -, rfl⟩ := hvv
      obtain ⟨n3, hn3⟩ : ∃ n, G.l.length = n + 1 := ⟨G.l.length - 1, by omega⟩
      rw [hn3] at HB3 HOL hsc ⊢
      have HN3 := Lib.hid hn3
      have hnb : n3 ≤ 1000 := by have := HLE.out; omega
      clear hH3 hs3 hb3 hbc hm3 hx3 hne3 hol
      go_wp2_with (at_builtin; refine wpList_app_bts rfl _ _ rfl (.slice va P0.length vc) P0 out rfl (HB.out.sub HS3.out) (.slice (some ⟨g, off, none⟩) (n3 + 1) sc) out3 rfl HB3.out H3.out (by have := HLE.out; rw [HOL.out]; omega) ?_)
      intro v4 w4 A4 hbm4 hH4
      obtain ⟨ya, yc, rfl⟩ := hbm4.row.shape
      obtain ⟨-, c0, c1, c2, hrc⟩ := hH4.use HBC.out
      have hbv : BtV w4 (.agg #[.int .i64 x.b, .int .i64 x.e, (out3[G.l.length - 1]'hj).2]) x := ⟨_, rfl, by have := hrc; rwa [HX3.out] at this⟩
      rw [HX3.out] at c0 c1
      obtain ⟨p2, hp2⟩ : ∃ p2, (out3[G.l.length - 1]'hj).2 = p2 := ⟨_, rfl⟩
      rw [hp2] at c2 hbv
      rw [HN3.out, show n3 + 1 - 1 = n3 from rfl] at c0 c1 c2
      have H4 := Lib.hid hH4
      have HBM4 := Lib.hid hbm4
      clear hH4 hbm4 hrc hp2
      go_wp2_with fail
      refine (rnext_any x (by have := HXO.out.b0; omega) (by have := HXO.out.b1; omega) (by have := HXO.out.n64; omega) _ _ hbv).mono ?_
      rintro e w5 ⟨rfl, hb5⟩
      have H5 := Lib.hid (H4.out.below hb5 (Nat.le_refl _))
      clear hb5
      go_wp2_with fail
      go_roundg gj
      case measure => omega
      case rel =>
        refine ⟨k + 1, P3, out ++ out3, A4, by omega, by rw [HE2.out], HS1.out.trans HS3.out, ?_, ?_⟩
        · rw [HTK.out, ← HM3.out]; have := HBM4.out; rwa [List.length_append, List.length_map] at this
        · have := perm_mid A4 (A ++ Ad) F
          exact H5.out.perm (by simpa [List.append_assoc] using this)

theorem joined10_ok {w : World} {v1 v2 : Value} {L : List Bt} (h1 : BtsR w v1 L) (h2 : BtsR w v2 L) (hl : L.length ≤ 1000000000) (hs : ∀ x, x ∈ L → BtSm x) :
    Calls Tryz.prog 42 #[v1, v2] w fun e w' => e = .returned (.bool true) ∧ Below w.heap.size w w' := by
  go_enter Tryz.func42, Tryz.ntmps42
  go_wp2_with fail
  refine (samebatches_ok h1 h2 hl hs).mono ?_
  rintro e w1 ⟨rfl, hb⟩
  have HB := Lib.hid hb
  clear hb
  go_wp2_with fail
  go_ret
  exact ⟨rfl, HB.out⟩
end
end Go.Proofs.YthocnhdefnbchaaGreatDoor.Sg

/-! Hs -/
namespace Go.Proofs.YthocnhdefnbchaaGreatDoor.Sg
open Go.RowKit Er Go.Maps

theorem long_big (a : Int) (m : Int) (h0 : 0 < m) (h1 : m ≤ 2000000000000) (w : World) :
    Calls Tryz.prog 10 #[.int .i64 a, .int .i64 m] w fun e w' => e = .returned (.int .i64 (a % m)) ∧ w = w' := by
  obtain ⟨b1, b2, b3, b4⟩ := tmod_emod a m h0
  have hm : ¬ m = 0 := by omega
  have B3 := Lib.hid b3
  have B4 := Lib.hid b4
  clear b3 b4
  by_cases h : Int.tmod a m < 0
  · go_enter Tryz.func10, Tryz.ntmps10
    go_wp2_with fail
    go_ret
    exact ⟨congrArg (fun z => Ending.returned (.int .i64 z)) (B3.out h), rfl⟩
  · go_enter Tryz.func10, Tryz.ntmps10
    go_wp2_with fail
    go_ret
    exact ⟨congrArg (fun z => Ending.returned (.int .i64 z)) (B4.out h), rfl⟩

section
variable {S : List Nat} {E : Nat → Addr} {B : Nat} {P : Pm} {h : Nat} {H : Hl} {D : Dk} {A Ad F : Mm} {w : World} {b0 : Int} {l : List Bt}

set_option maxRecDepth 100000 in
set_option maxHeartbeats 400000 in
theorem hbegin_again (hE : Pers P (fun w => Errs S w E B)) (h12 : 12 ∈ S) (hM : HlM h H A) (hne : H.L ≠ []) (hn : H.L.length ≤ 1000000) (base : Int) (hH : Hp w P (A ++ F)) :
    Calls Tryz.prog 46 #[ptr h, .int .i64 base] w fun e w' => e = .returned (.iface 291 (.pointer (some (E 12)))) ∧ Hp w' P (A ++ F) := by
  obtain ⟨a, c, hc, hat⟩ := hM.at_
  obtain ⟨-, -, -, c3, -, -, -⟩ := hat w P _ hH
  obtain ⟨n, hn2⟩ : ∃ n, H.L.length = n := ⟨_, rfl⟩
  have hpos : 0 < n := by rw [← hn2]; exact List.length_pos_iff.2 hne
  rw [hn2] at c3 hc hn
  have j1 : (0 : Int) < (n : Int) := by omega
  have ce : w.cell? ⟨7, 0, none⟩ = some (.iface 291 (.pointer (some (E 12)))) := (hH.use hE).at_ 12 h12
  have HH := Lib.hid hH
  clear hH hat hM hne hn2
  go_enter Tryz.func46, Tryz.ntmps46
  go_wp2_with fail
  go_ret
  exact ⟨rfl, HH.out⟩

set_option maxRecDepth 100000 in
set_option maxHeartbeats 400000 in
theorem hflush_on (C : Ctx S E B P) (hM : HlM h H A) (hO : HotOn D H b0 l) (hD : DkM P H.d D Ad) {L0 : List (Nat × Sg)} {s : Nat} {G : Sg} (hL : H.L = L0 ++ [(s, G)]) (hH : Hp w P (A ++ (Ad ++ F))) :
    Calls Tryz.prog 35 #[ptr h] w fun e w' => e = .returned .nilIface ∧ ∃ A' Ad' D', HlM h { H with L := L0 ++ [(s, G.syn)] } A' ∧ DkM P H.d D' Ad' ∧ HotOn D' { H with L := L0 ++ [(s, G.syn)] } b0 l ∧ Hp w' P (A' ++ (Ad' ++ F)) := by
  obtain ⟨a, c, hc, hat⟩ := hM.at_
  obtain ⟨-, -, -, c3, -, -, -⟩ := hat w P _ hH
  obtain ⟨n, hn2⟩ : ∃ n, H.L.length = n := ⟨_, rfl⟩
  have hpos : 0 < n := by rw [← hn2, hL]; simp
  rw [hn2] at c3 hc
  have hnz : ¬ (n : Int) = 0 := by omega
  obtain ⟨hGO, hGd, -, -⟩ := hO.sg (s, G) (by rw [hL]; simp)
  dsimp only at hGO hGd
  obtain ⟨A1, R, hG, hp, hback⟩ := hM.focus (l1 := L0) (l2 := []) hL
  have HH := Lib.hid hH
  have HM := Lib.hid hM
  have HL := Lib.hid hL
  have HO := Lib.hid hO
  have HP := Lib.hid hp
  have HBK := Lib.hid hback
  have HGO := Lib.hid hGO
  have HGD := Lib.hid hGd
  have HD := Lib.hid hD
  clear hH hat hM hn2 hL hO hp hback hGO hGd hD
  go_enter Tryz.func35, Tryz.ntmps35
  go_wp2_with fail
  refine (hlast_ok HM.out HL.out (by have := HO.out.small.2; rw [HL.out] at this; simp at this; omega) HH.out).mono ?_
  rintro e w1 ⟨rfl, hH1⟩
  have H1 := Lib.hid (show Hp w1 P (A1 ++ (Ad ++ (R ++ F))) from by
    have h1 := hH1.perm (HP.out (Ad ++ F))
    have h2 := perm_mid R Ad F
    exact h1.perm (List.Perm.append_left A1 h2))
  clear hH1
  go_wp2_with fail
  refine (ssync_on C hG HGO.out (by rw [HGD.out]; exact HD.out) H1.out).mono ?_
  rintro e w2 ⟨rfl, A2, Ad2, D2, hG2, hD2, hO2, hsm, hu, hlk, hH2⟩
  obtain ⟨A', hM', hp'⟩ := HBK.out G.syn A2 hG2
  have hO3 := HO.out.sync HL.out hO2 hsm hu hlk
  have H2 := Lib.hid (show Hp w2 P (A' ++ (Ad2 ++ F)) from by
    have h2 := perm_mid Ad2 R F
    exact (hH2.perm (List.Perm.append_left A2 h2)).perm (hp' (Ad2 ++ F)))
  have HM2 := Lib.hid hM'
  have HO3 := Lib.hid hO3
  have HD2 := Lib.hid (show DkM P H.d D2 Ad2 from by rw [← HGD.out]; exact hD2)
  clear hH2 hM' hO3 hD2 hO2 hG2 hp' hsm hu hlk
  go_wp2_with fail
  go_ret
  exact ⟨rfl, A', Ad2, D2, HM2.out, HD2.out, HO3.out, H2.out⟩

set_option maxRecDepth 100000 in
set_option maxHeartbeats 1000000 in
/-- How far a log of one segment is synced. -/
theorem hsynced_one (hM : HlM h H A) (hW : HlW H) {s : Nat} {G : Sg} (hL : H.L = [(s, G)]) (hH : Hp w P (A ++ F)) :
    Calls Tryz.prog 44 #[ptr h] w fun e w' => e = .returned (.int .i64 (synF G.kept G.base G.l)) ∧ Hp w' P (A ++ F) := by
  obtain ⟨a, c, hc, hat⟩ := hM.at_
  have hlen : H.L.length = 1 := by rw [hL]; rfl
  have hst : H.start = G.base := by simp [Hl.start, hL]
  have hgw := hW.g (s, G) (by rw [hL]; simp)
  dsimp only at hgw
  obtain ⟨A1, R, hG, hp, -⟩ := hM.focus (l1 := []) (l2 := []) hL
  have hx : ∀ hk : 0 < H.L.length, H.L[0] = (s, G) := fun hk => by simp [hL]
  have HH := Lib.hid hH
  have HM := Lib.hid hM
  have HW := Lib.hid hW
  have HAT := Lib.hid hat
  have HST := Lib.hid hst
  have HP := Lib.hid hp
  have HX := Lib.hid hx
  have HLE := Lib.hid hlen
  clear hH hat hM hlen hL hW hst hp hx
  obtain ⟨b, hb⟩ : ∃ b, (G.base : Int) = b := ⟨_, rfl⟩
  have HB := Lib.hid hb
  go_enter Tryz.func44, Tryz.ntmps44
  go_wp2_with fail
  refine (hstart_ok HM.out HW.out HH.out).mono ?_
  rintro e w1 ⟨rfl, hH1⟩
  rw [HST.out, hb]
  obtain ⟨-, -, -, c3, -, -, hcell⟩ := HAT.out w1 P _ hH1
  obtain ⟨g, rfl, cg⟩ := hcell 0 (by rw [HLE.out]; decide)
  rw [HX.out] at cg
  rw [HLE.out] at c3
  have H1 := Lib.hid (hH1.perm (HP.out F))
  have CG := Lib.hid cg
  clear hH1 hcell hb cg
  go_wp2_with fail
  go_loopg [3, 13] 1 (fun m vt vi wr => (m = 1 ∧ vi = .int .i64 0 ∧ vt = .int .i64 b ∧ wr = w1) ∨ (m = 0 ∧ vi = .int .i64 1 ∧ vt = .int .i64 (synF G.kept G.base G.l) ∧ Hp wr P (A1 ++ (R ++ F))))
  case atStart => exact .inl ⟨rfl, rfl, rfl, rfl⟩
  case round =>
    rcases hrel with ⟨rfl, rfl, rfl, rfl⟩ | ⟨rfl, rfl, rfl, hHr⟩
    · have cg := CG.out
      go_wp2_with fail
      refine (sbase_any hG H1.out).mono ?_
      rintro e w2 ⟨rfl, rfl⟩
      rw [HB.out]
      go_wp2_with fail
      refine (ssynced_ok hG hgw H1.out).mono ?_
      rintro e w3 ⟨rfl, hH3⟩
      have H3 := Lib.hid hH3
      clear hH3
      go_wp2_with fail
      go_roundg 0
      case measure => omega
      case rel => exact .inr ⟨rfl, rfl, rfl, H3.out⟩
    · have HR := Lib.hid hHr
      clear hHr
      go_wp2_with fail
      go_ret
      exact ⟨rfl, HR.out.perm (HP.out F).symm⟩

set_option maxRecDepth 100000 in
set_option maxHeartbeats 1000000 in
theorem hopen_bad (d : Nat) (hE : Pers P (fun w => Errs S w E B)) (h4 : 4 ∈ S) (seg every : Int) (hb : seg < 1 ∨ 1048576 < seg ∨ every < 1 ∨ 1048576 < every) (hH : Hp w P F) :
    Calls Tryz.prog 39 #[ptr d, .agg #[.int .i64 seg, .int .i64 every]] w fun e w' => e = .returned (.tuple #[.pointer none, .iface 291 (.pointer (some (E 4)))]) ∧ Hp w' P F := by
  have h4' := (((hH.alloc (.cells #[ptr d] 25)).alloc (.cells #[.int .i64 seg, .int .i64 every] 72)).alloc (.cells #[.pointer none] 53)).alloc (.cells #[.nilIface] 27)
  simp only [World.alloc_size'] at h4'
  obtain ⟨w4, hw4⟩ : ∃ w4, (((w.alloc (.cells #[ptr d] 25)).alloc (.cells #[.int .i64 seg, .int .i64 every] 72)).alloc (.cells #[.pointer none] 53)).alloc (.cells #[.nilIface] 27) = w4 := ⟨_, rfl⟩
  obtain ⟨bx, hbx⟩ : ∃ bx, bx = w.heap.size := ⟨_, rfl⟩
  rw [hw4, ← hbx] at h4'
  have z5 := (@Hp.cell _ _ _ h4' (bx + 1 + 1 + 1) #[.nilIface] 27 (0, 0) (by simp)) (i := 0) rfl
  have z4 := (@Hp.cell _ _ _ h4' (bx + 1 + 1) #[.pointer none] 53 (0, 0) (by simp)) (i := 0) rfl
  have z1 := (@Hp.cell _ _ _ h4' (bx + 1) #[.int .i64 seg, .int .i64 every] 72 (0, 0) (by simp)) (i := 0) rfl
  have z2 := (@Hp.cell _ _ _ h4' (bx + 1) #[.int .i64 seg, .int .i64 every] 72 (0, 0) (by simp)) (i := 1) rfl
  have f5 : w4.frozen? ⟨bx + 1 + 1 + 1, 0, none⟩ = false := h4'.frozen (b := bx + 1 + 1 + 1) (c := #[.nilIface]) (t := 27) (by simp) 0
  have f4 : w4.frozen? ⟨bx + 1 + 1, 0, none⟩ = false := h4'.frozen (b := bx + 1 + 1) (c := #[.pointer none]) (t := 53) (by simp) 0
  have ce : w4.cell? ⟨0, 0, none⟩ = some (.iface 291 (.pointer (some (E 4)))) := (h4'.use hE).at_ 4 h4
  have hfin : ∀ w5, Hp w5 P ((bx + 1 + 1 + 1, .cells #[.nilIface] 27 (0, 0)) :: (bx + 1 + 1, .cells #[.pointer none] 53 (0, 0)) :: (bx + 1, .cells #[.int .i64 seg, .int .i64 every] 72 (0, 0)) :: (bx, .cells #[ptr d] 25 (0, 0)) :: F) →
      ((w5.setCell ⟨bx + 1 + 1, 0, none⟩ (.pointer none)).setCell ⟨bx + 1 + 1 + 1, 0, none⟩ (.iface 291 (.pointer (some (E 4))))).cell? ⟨bx + 1 + 1, 0, none⟩ = some (.pointer none) ∧
      ((w5.setCell ⟨bx + 1 + 1, 0, none⟩ (.pointer none)).setCell ⟨bx + 1 + 1 + 1, 0, none⟩ (.iface 291 (.pointer (some (E 4))))).cell? ⟨bx + 1 + 1 + 1, 0, none⟩ = some (.iface 291 (.pointer (some (E 4)))) ∧
      Hp ((w5.setCell ⟨bx + 1 + 1, 0, none⟩ (.pointer none)).setCell ⟨bx + 1 + 1 + 1, 0, none⟩ (.iface 291 (.pointer (some (E 4))))) P F := by
    intro w5 h1
    have h2 := (Hp.mid (A := [(bx + 1 + 1 + 1, .cells #[.nilIface] 27 (0, 0))]) (B := [(bx + 1 + 1, .cells #[.pointer none] 53 (0, 0))]) h1).set 0 (.pointer none)
    have h3 := (Hp.mid (A := [_]) (B := [(bx + 1 + 1 + 1, .cells #[.nilIface] 27 (0, 0))]) h2).set 0 (.iface 291 (.pointer (some (E 4))))
    exact ⟨(@Hp.cell _ _ _ h3 (bx + 1 + 1) #[.pointer none] 53 (0, 0) (by simp)) (i := 0) rfl, (@Hp.cell _ _ _ h3 (bx + 1 + 1 + 1) #[.iface 291 (.pointer (some (E 4)))] 27 (0, 0) (by simp)) (i := 0) rfl, h3.drop (M := [_, _, _, _])⟩
  have HFIN := Lib.hid hfin
  have H4 := Lib.hid h4'
  have HW4 := Lib.hid hw4
  have HBX := Lib.hid hbx
  have HE := Lib.hid hE
  clear hH h4' hw4 hbx hfin hE
  have hcase : seg < 1 ∨ (¬ seg < 1 ∧ 1048576 < seg) ∨ (¬ seg < 1 ∧ ¬ 1048576 < seg ∧ (every < 1 ∨ 1048576 < every)) := by omega
  rcases hcase with h1 | ⟨h1, h2⟩ | ⟨h1, h2, h3⟩
  · refine (callsIn_wide (n := 6)).1 ?_
    refine callsIn_of_wp_marks Tryz.func39 rfl trivial ?_ rfl
    simp only [Tryz.ntmps39, List.size_toArray, List.length_cons, List.length_nil, Nat.reduceAdd, Nat.reduceSub, Array.replicate_succ, Array.replicate_zero, List.push_toArray, List.append_toArray, List.nil_append, List.cons_append]
    refine wpIn_wide.2 ?_
    go_wp2_with fail
    rw [HW4.out, ← HBX.out]
    go_wp2_with fail
    go_region
    go_wp2_with fail
    obtain ⟨q1, q2, q3⟩ := HFIN.out w4 H4.out
    exact ⟨.tuple #[.pointer none, .iface 291 (.pointer (some (E 4)))], by simp [results, Tryz.results39, go_sem, q1, q2], rfl, q3.drew⟩
  · refine (callsIn_wide (n := 6)).1 ?_
    refine callsIn_of_wp_marks Tryz.func39 rfl trivial ?_ rfl
    simp only [Tryz.ntmps39, List.size_toArray, List.length_cons, List.length_nil, Nat.reduceAdd, Nat.reduceSub, Array.replicate_succ, Array.replicate_zero, List.push_toArray, List.append_toArray, List.nil_append, List.cons_append]
    refine wpIn_wide.2 ?_
    go_wp2_with fail
    rw [HW4.out, ← HBX.out]
    go_wp2_with fail
    go_region
    go_wp2_with fail
    obtain ⟨q1, q2, q3⟩ := HFIN.out w4 H4.out
    exact ⟨.tuple #[.pointer none, .iface 291 (.pointer (some (E 4)))], by simp [results, Tryz.results39, go_sem, q1, q2], rfl, q3.drew⟩
  · refine (callsIn_wide (n := 6)).1 ?_
    refine callsIn_of_wp_marks Tryz.func39 rfl trivial ?_ rfl
    simp only [Tryz.ntmps39, List.size_toArray, List.length_cons, List.length_nil, Nat.reduceAdd, Nat.reduceSub, Array.replicate_succ, Array.replicate_zero, List.push_toArray, List.append_toArray, List.nil_append, List.cons_append]
    refine wpIn_wide.2 ?_
    go_wp2_with fail
    rw [HW4.out, ← HBX.out]
    go_wp2_with fail
    refine (ixnew_bad (H4.out.use HE.out) h4 every h3).mono ?_
    rintro e w5 ⟨rfl, q, rfl⟩
    have H5 := Lib.hid (H4.out.drewN q)
    have z5' := (@Hp.cell _ _ _ H5.out (bx + 1 + 1 + 1) #[.nilIface] 27 (0, 0) (by simp)) (i := 0) rfl
    have z4' := (@Hp.cell _ _ _ H5.out (bx + 1 + 1) #[.pointer none] 53 (0, 0) (by simp)) (i := 0) rfl
    have f5' : (w4.drewN q).frozen? ⟨bx + 1 + 1 + 1, 0, none⟩ = false := H5.out.frozen (b := bx + 1 + 1 + 1) (c := #[.nilIface]) (t := 27) (by simp) 0
    have f4' : (w4.drewN q).frozen? ⟨bx + 1 + 1, 0, none⟩ = false := H5.out.frozen (b := bx + 1 + 1) (c := #[.pointer none]) (t := 53) (by simp) 0
    go_wp2_with fail
    obtain ⟨q1, q2, q3⟩ := HFIN.out _ H5.out
    exact ⟨.tuple #[.pointer none, .iface 291 (.pointer (some (E 4)))], by simp [results, Tryz.results39, go_sem, q1, q2], rfl, q3⟩
end
end Go.Proofs.YthocnhdefnbchaaGreatDoor.Sg

/-! Yf -/
namespace Go.Proofs.YthocnhdefnbchaaGreatDoor.Sg
open Go.RowKit Er Go.Maps

/-- What is asked of a disk ahead of a crash, and what is there behind it. -/
def CrSt (D6 : Dk) (dd seg every : Nat) (b0 : Int) (L : List Bt) (kk : Nat) (dn : Bool) : Prop :=
  DkW D6 ∧ D6.n ≤ 1000000 ∧ (∀ c, c ∈ D6.ch → c.nm.length ≤ 1000000 ∧ c.gone.length ≤ 1000000) ∧ D6.kp.length + D6.ch.length < 1000000 ∧
    ∀ q, ((D6.keptA q).map (·.2)).Nodup ∧ (∀ f, f ∈ D6.fl → f.blk ∈ (D6.keptA q).map (·.2) → f.b.length ≤ 1099511627776) ∧
      ∀ p : Nat → Nat, (∀ f, f ∈ D6.fl → p f.blk ≤ f.b.length - f.s) → ∃ (L1 : List (Nat × Sg)) (k3 : Nat), HotOn (D6.crash q p) ⟨dd, seg, every, L1⟩ b0 (L.take k3) ∧ L1 ≠ [] ∧ kk ≤ k3 ∧ k3 ≤ L.length ∧ (dn = false → k3 = kk)

section
variable {D D6 : Dk} {H : Hl} {b0 : Int} {l : List Bt} {L1 L2 : List (Nat × Sg)}
theorem HotOn.crash_pre (h : HotOn D H b0 l) (hL : H.L = L1 ++ L2) {q : Nat} (hnm : D6.keptA q = (D.rems (revNm L2)).nm) (hfl : D6.fl = D.fl) (hnd : (D6.fl.map (·.blk)).Nodup) :
    ((D6.keptA q).map (·.2)).Nodup ∧ (∀ f, f ∈ D6.fl → f.blk ∈ (D6.keptA q).map (·.2) → f.b.length ≤ 1099511627776) := by
  have hR := h.remd hL
  refine ⟨by rw [hnm]; exact hR.I.inj, fun f hf hb => ?_⟩
  rw [hnm] at hb
  obtain ⟨x, hx, e⟩ := List.mem_map.1 hb
  have hff := ffind_of_mem hnd hf
  have hlk : (D.rems (revNm L2)).look x.1 = some f := by
    obtain ⟨b', hb'⟩ := nfind_of_mem hx
    have hbb : b' = x.2 := by
      have h1 := nfind_mem hb'
      have h2 := hR.I.nd
      have : ∀ (m : List (Nam × Nat)), (m.map (·.1)).Nodup → (x.1, b') ∈ m → x ∈ m → b' = x.2 := by
        intro m
        induction m with
        | nil => intro _ h; cases h
        | cons y m ih =>
          intro hn h3 h4
          rw [List.map_cons, List.nodup_cons] at hn
          rcases List.mem_cons.1 h3 with h3 | h3
          · rcases List.mem_cons.1 h4 with h4 | h4
            · rw [h4, ← h3]
            · exact absurd (List.mem_map.2 ⟨x, h4, by rw [← h3]⟩) hn.1
          · rcases List.mem_cons.1 h4 with h4 | h4
            · exact absurd (List.mem_map.2 ⟨_, h3, by rw [h4]⟩) hn.1
            · exact ih hn.2 h3 h4
      exact this _ h2 h1 hx
    unfold Dk.look
    rw [hb', Option.bind_some, hbb, hR.fl, ← hfl, e]
    exact hff
  have := used_ge hlk
  have := hR.used
  have := h.used
  have := h.room
  omega
/-- Segments ahead have the batches ahead. -/
theorem HotOn.pre_take (h : HotOn D H b0 l) (hL : H.L = L1 ++ L2) : ((L1.map (·.2.l)).flatten) = l.take ((L1.map (·.2.l)).flatten).length ∧ ((L1.map (·.2.l)).flatten).length ≤ l.length := by
  have hf := h.fl
  rw [hL, List.map_append, List.flatten_append] at hf
  rw [← hf]
  refine ⟨by rw [List.take_left], by rw [List.length_append]; omega⟩
theorem crst_done {dd seg every kk : Nat} (h : HotOn D6.un ⟨dd, seg, every, H.L⟩ b0 (l.take kk)) (hall : ∀ p, p ∈ H.L → p.2.kept = sizes p.2.l) (hne : H.L ≠ []) (hkk : kk ≤ l.length) (hnd : (D6.fl.map (·.blk)).Nodup) : CrSt D6 dd seg every b0 l kk false := by
  have hsm := h.small.2
  dsimp only at hsm
  have hc0 : D6.ch = [] := List.eq_nil_of_length_eq_zero h.c0
  have hkp : D6.kp = D6.nm := h.kp
  have hnl : D6.nm.length = H.L.length := h.nml
  refine ⟨un_W h.I.w, h.n, fun c hc => (by rw [hc0] at hc; cases hc), by rw [hc0, hkp, hnl]; simp; omega, fun q => ?_⟩
  have hnm := h.kept_same (D2 := D6) rfl q
  obtain ⟨c1, c2⟩ := h.crash_pre (L1 := H.L) (L2 := []) (D6 := D6) (by simp) hnm rfl hnd
  refine ⟨c1, c2, fun p hp => ⟨H.L, kk, ?_, hne, Nat.le_refl _, hkk, fun _ => rfl⟩⟩
  have := h.crashed hall (L1 := H.L) (L2 := []) (by simp) (D2 := D6) (q := q) (p := p) (un_W h.I.w) hnm rfl rfl rfl hp
  rw [show (H.L.map (·.2.l)).flatten = l.take kk from h.fl] at this
  exact this
theorem crst_gone {dd seg every kk : Nat} (h : HotOn D ⟨dd, seg, every, H.L⟩ b0 l) (hall : ∀ p, p ∈ H.L → p.2.kept = sizes p.2.l) (hL : H.L = L1 ++ L2) (hne : L1 ≠ []) (hkk : kk ≤ l.length) (hbs : ∀ p, p ∈ L2 → endOf b0 (l.take kk) ≤ (p.2.base : Int))
    (he : D6.un = D.rems (revNm L2) ∨ D6.un = (D.rems (revNm L2)).sdir) (hnd : (D6.fl.map (·.blk)).Nodup) : CrSt D6 dd seg every b0 l kk true := by
  have hLe : Hl.L ⟨dd, seg, every, H.L⟩ = L1 ++ L2 := hL
  have hR := h.remd hLe
  have hsm := h.small.2
  dsimp only at hsm
  have hnl := h.nml
  dsimp only at hnl
  have hl12 := congrArg List.length hL
  rw [List.length_append] at hl12
  have hrl : (revNm L2).length = L2.length := by simp [revNm]
  have hr : ∀ x, x ∈ l → 1 ≤ x.r.length := fun x hx => (h.ok x hx).1.n1
  have hfl : D6.fl = D.fl := by
    rcases he with he | he
    · have := congrArg Dk.fl he; exact this.trans hR.fl
    · have := congrArg Dk.fl he
      have h2 : (D.rems (revNm L2)).sdir.fl = (D.rems (revNm L2)).fl := (beg_fl _).1
      exact (this.trans h2).trans hR.fl
  have hn : D6.n = D.n := by
    rcases he with he | he
    · have := congrArg Dk.n he; exact this.trans hR.n
    · have := congrArg Dk.n he; exact (this.trans (sdir_same hR.I).n).trans hR.n
  have hrm : D6.room = D.room := by
    rcases he with he | he
    · have := congrArg Dk.room he; exact this.trans hR.room
    · have := congrArg Dk.room he; exact (this.trans (sdir_same hR.I).room).trans hR.room
  have hW : DkW D6 := by
    refine un_W ?_
    rcases he with he | he
    · rw [he]; exact hR.I.w
    · rw [he]; exact (sdir_I hR.I).w
  have hchl : (∀ c, c ∈ D6.ch → c.nm.length ≤ 1000000 ∧ c.gone.length ≤ 1000000) ∧ D6.kp.length + D6.ch.length < 1000000 := by
    rcases he with he | he
    · have e1 : D6.ch = (revNm L2).map fun s => ⟨[], s, none⟩ := by
        have := congrArg Dk.ch he
        have h2 := hR.ch
        rw [List.eq_nil_of_length_eq_zero h.c0, List.nil_append] at h2
        exact this.trans h2
      have e2 : D6.kp = D.nm := by
        have := congrArg Dk.kp he
        exact (this.trans hR.kp).trans h.kp
      refine ⟨fun c hc => ?_, by rw [e1, e2, hnl, List.length_map, hrl]; omega⟩
      rw [e1] at hc
      obtain ⟨s, hs, rfl⟩ := List.mem_map.1 hc
      obtain ⟨x, hx, rfl⟩ := mem_revNm.1 hs
      have := (h.sg x (by rw [hLe]; exact List.mem_append_right _ hx)).1.nm
      exact ⟨Nat.zero_le _, by show x.2.nm.length ≤ _; omega⟩
    · have e1 : D6.ch = [] := by have := congrArg Dk.ch he; exact this
      have e2 : D6.kp = (D.rems (revNm L2)).nm := by have := congrArg Dk.kp he; exact this
      refine ⟨fun c hc => (by rw [e1] at hc; cases hc), ?_⟩
      have := h.remd_len hLe
      rw [e1, e2, this]; simp; omega
  have key : ∀ q, ∃ La Lb, L2 = La ++ Lb ∧ D6.keptA q = (D.rems (revNm Lb)).nm := fun q => by
    rcases he with he | he
    · exact h.kept_rems hLe he q
    · exact ⟨[], L2, rfl, HotOn.kept_sdir he q⟩
  refine ⟨hW, by rw [hn]; exact h.n, hchl.1, hchl.2, fun q => ?_⟩
  obtain ⟨La, Lb, e1, hnm⟩ := key q
  have hLe2 : Hl.L ⟨dd, seg, every, H.L⟩ = (L1 ++ La) ++ Lb := by rw [hLe, e1, List.append_assoc]
  obtain ⟨c1, c2⟩ := h.crash_pre hLe2 hnm hfl hnd
  refine ⟨c1, c2, fun p hp => ?_⟩
  obtain ⟨t1, t2⟩ := h.pre_take hLe2
  obtain ⟨k3, hk3⟩ : ∃ k, (((L1 ++ La).map (·.2.l)).flatten).length = k := ⟨_, rfl⟩
  rw [hk3] at t1 t2
  refine ⟨L1 ++ La, k3, ?_, by simp [hne], ?_, t2, fun hh => by cases hh⟩
  · have := h.crashed hall hLe2 (D2 := D6) (q := q) (p := p) hW hnm hfl hn hrm hp
    rw [t1] at this
    exact this
  · cases hLb : Lb with
    | nil =>
      have hf := h.fl
      rw [hLe2, hLb, List.append_nil] at hf
      rw [← hk3, hf]; exact hkk
    | cons x Lb' =>
      rw [hLb] at hLe2 e1
      have hb := (h.split (s := x.1) (G := x.2) hLe2).2.1
      rw [t1] at hb
      have hx := hbs x (by rw [e1]; simp)
      exact endOf_inj hr h.ch hkk (by rw [← hb]; exact hx)
end
end Go.Proofs.YthocnhdefnbchaaGreatDoor.Sg

/-! Yg -/
namespace Go.Proofs.YthocnhdefnbchaaGreatDoor.Sg
open Go.RowKit Er Go.Maps

section
variable {P : Pm} {d : Nat} {D : Dk} {A F M : Mm} {w : World}
set_option maxRecDepth 100000 in
theorem darm_ok (hD : DkM P d D A) (n : Nat) (hn : n ≤ 1099511627776) (hH : Hp w P (A ++ F)) :
    Calls Tryz.prog 43 #[ptr d, .int .i64 n] w fun e w' => e = .returned (.tuple #[]) ∧ ∃ A', DkM P d { D with arm := n } A' ∧ Hp w' P (A' ++ F) := by
  obtain ⟨nb, no, kb, ko, cv, Ac, Af, rfl, h2, h3, h4, h5, h6⟩ := hD
  have hm : (d, Obj.cells (dkCells D nb kb cv) 85 (0, 0)) ∈ ((d, Obj.cells (dkCells D nb kb cv) 85 (0, 0)) :: (nb, no) :: (kb, ko) :: (Ac ++ Af)) ++ F := by simp
  have c5 : w.cell? ⟨d, 5, none⟩ = some (.int .i64 D.arm) := hH.cell hm rfl
  have f5 := hH.frozen hm 5
  have HH := Lib.hid hH
  have hx : max (n : Int) 0 = (n : Int) := by omega
  have hx2 : ¬ (n : Int) < 0 := by omega
  clear hH hm
  go_enter Tryz.func43, Tryz.ntmps43
  go_wp2_with fail
  go_end0
  exact ⟨rfl, _, ⟨nb, no, kb, ko, cv, Ac, Af, rfl, h2, h3, h4, h5, hn, h6.2⟩, HH.out.set 5 (.int .i64 n)⟩
set_option maxRecDepth 100000 in
theorem ddown_ok (hD : DkM P d D A) (hH : Hp w P (A ++ F)) :
    Calls Tryz.prog 45 #[ptr d] w fun e w' => e = .returned (.bool D.down) ∧ w = w' := by
  obtain ⟨nb, no, kb, ko, cv, Ac, Af, rfl, h2, h3, h4, h5, h6⟩ := hD
  have hm : (d, Obj.cells (dkCells D nb kb cv) 85 (0, 0)) ∈ ((d, Obj.cells (dkCells D nb kb cv) 85 (0, 0)) :: (nb, no) :: (kb, ko) :: (Ac ++ Af)) ++ F := by simp
  have c6 : w.cell? ⟨d, 6, none⟩ = some (.bool D.down) := hH.cell hm rfl
  clear hH hm h2 h3 h4 h5 h6
  go_enter Tryz.func45, Tryz.ntmps45
  go_wp2_with fail
  go_ret
  exact ⟨rfl, rfl⟩

set_option maxRecDepth 100000 in
set_option maxHeartbeats 1000000 in
theorem at10_ok {v : Value} {out : List (Bt × Value)} {L : List Bt} (hv : BtsP P v out) (hm : out.map (·.1) = L) (hok : ∀ x, x ∈ L → BtOk x ∧ BtBy x) (k : Nat) (hk : k ≤ L.length) (hl : L.length ≤ 1000000) (o : Int) (ho : endOf ((0 : Nat) : Int) (L.take k) = o) (hH : Hp w P M) :
    Calls Tryz.prog 40 #[v, .int .i64 k] w fun e w' => e = .returned (.int .i64 o) ∧ Hp w' P M := by
  have hol : out.length = L.length := by rw [← hm, List.length_map]
  by_cases hk0 : k = 0
  · subst hk0
    have ho0 : o = 0 := by rw [← ho]; rfl
    subst ho0
    obtain ⟨a, c, rfl, -⟩ := hv.shape
    clear ho hv hm
    go_enter Tryz.func40, Tryz.ntmps40
    go_wp2_with fail
    go_ret
    exact ⟨rfl, hH⟩
  · obtain ⟨j, rfl⟩ : ∃ j, k = j + 1 := ⟨k - 1, by omega⟩
    have hjl : j < L.length := by omega
    have hjo : j < out.length := by rw [hol]; exact hjl
    obtain ⟨g, off, cap, rfl, hcap, hbc⟩ := hv.at_ hjo
    obtain ⟨x, hx⟩ : ∃ x, L[j] = x := ⟨_, rfl⟩
    have hxj : (out[j]).1 = x := by
      have h1 : (out.map (·.1))[j]? = some x := by rw [hm, List.getElem?_eq_getElem hjl, hx]
      rw [List.getElem?_map, List.getElem?_eq_getElem hjo] at h1
      simpa using h1
    obtain ⟨p, hp⟩ : ∃ p, (out[j]).2 = p := ⟨_, rfl⟩
    obtain ⟨-, c0, c1, c2, -⟩ := hH.use hbc
    rw [hxj] at c0 c1
    rw [hp] at c2
    have hbv : BtV w (.agg #[.int .i64 x.b, .int .i64 x.e, p]) x := by
      obtain ⟨-, -, -, -, h5⟩ := hH.use hbc
      rw [hxj, hp] at h5
      exact ⟨_, rfl, h5⟩
    obtain ⟨hxo, hxb⟩ := hok x (by rw [← hx]; exact List.getElem_mem _)
    have hoe : x.b + (x.r.length : Int) = o := by rw [← ho, take_next L j hjl, hx, endOf_snoc]
    obtain ⟨n, hn⟩ : ∃ n, out.length = n := ⟨_, rfl⟩
    rw [hn] at hcap ⊢
    have hjn : j < n := by omega
    have i1 : (0 : Int) ≤ (j : Int) := by omega
    have i2 : (j : Int) < (n : Int) := by omega
    have hj9 : j ≤ 1000000 := by omega
    have hje : (((j + 1 : Nat) : Int) == 0) = false := beq_eq_false_iff_ne.2 (by omega)
    have hje2 : ¬ ((j : Int) + 1) = 0 := by omega
    have H0 := Lib.hid hH
    have HBV := Lib.hid hbv
    have HXO := Lib.hid hxo
    have HOE := Lib.hid hoe
    clear hv hm hok hk ho hol hjo hjl hbc hxj hp hx hn hH hbv hxo hxb hoe hk0
    go_enter Tryz.func40, Tryz.ntmps40
    go_wp2_with fail
    refine (rnext_any x (by have := HXO.out.b0; omega) (by have := HXO.out.b1; omega) (by have := HXO.out.n64; omega) _ _ HBV.out).mono ?_
    rintro e w1 ⟨rfl, hb1⟩
    rw [HOE.out]
    have H1 := Lib.hid (H0.out.below hb1 (Nat.le_refl _))
    clear hb1
    go_wp2_with fail
    go_ret
    exact ⟨rfl, H1.out⟩
end
end Go.Proofs.YthocnhdefnbchaaGreatDoor.Sg

/-! Yh -/
namespace Go.Proofs.YthocnhdefnbchaaGreatDoor.Sg
open Go.RowKit Er Go.Maps

section
variable {P : Pm} {F : Mm} {w : World}
set_option maxRecDepth 100000 in
set_option maxHeartbeats 400000 in
theorem clonesg_ok (g off k cap : Nat) (xs : List Value) (hl : xs.length = k * 1) (hone : ∀ u ∈ xs, u.oneCell' = true) (hcell : ∀ (j : Nat) u, xs[j]? = some u → w.cell? ⟨g, off + j, none⟩ = some u) (hk : k ≤ 1000000) (hH : Hp w P F) :
    Calls Tryz.prog 87 #[.slice (some ⟨g, off, none⟩) k cap] w fun e w' => ∃ v A', e = .returned v ∧ RowM 41 1 v k xs A' ∧ Hp w' P (A' ++ F) := by
  have hq := fun (w : World) => Lib.run_eql_slice_nil (P := Tryz.prog) w 120 41 (some ⟨g, off, none⟩) k cap 0 0 Tryz.underlying120
  obtain ⟨i0, hi0, hz0, hz1, hz2⟩ := info_parts infoSp
  have HI := Lib.hid hi0
  have hown := World.ownsRow_made (base := w.heap.size) (e := 41) (size := 1) w #[] 0 (Nat.le_refl _) (by unfold maxLen; omega) rfl
  have HO := Lib.hid hown
  have hc2 : ∀ (j : Nat) u, xs[j]? = some u → (w.alloc (.cells #[] 41)).cell? ((⟨g, off, none⟩ : Addr).add j) = some u := fun j u hu => by
    have h1 := hcell j u hu
    have hg := World.block_lt_of_cell? _ _ h1
    have ea : (⟨g, off, none⟩ : Addr).add j = ⟨g, off + j, none⟩ := by simp [Addr.add]
    rw [ea]
    have hb : Below w.heap.size w (w.alloc (.cells #[] 41)) := (Below.refl _ _).alloc (Nat.le_refl _) _
    exact (hb.cell (p := ⟨g, off + j, none⟩) hg).trans h1
  have HC := Lib.hid hc2
  have HONE := Lib.hid hone
  have HL := Lib.hid hl
  have H0 := Lib.hid hH
  clear hi0 hown hcell hc2 hone hl hH
  go_enter Tryz.func87, Tryz.ntmps87
  go_wp2_with (at_builtin; refine wpList_append_own_at _ rfl _ _ 120 rfl w.heap.size 41 i0 (.pointer none) 1 8 Tryz.underlying120 HI.out hz0 hz1 hz2 rfl (by decide) _ 0 [] rfl HO.out ⟨g, off, none⟩ k cap xs rfl HL.out HC.out HONE.out ?c3 ?c4 ?c5 ?_)
  case c3 => unfold maxLen; omega
  case c4 => omega
  case c5 => simp
  intro v2 w4 hown' hgrow _ hat'
  have HO4 := Lib.hid hown'
  have HG := Lib.hid hgrow
  clear hown' hgrow hat'
  go_wp2_with fail
  go_ret
  have hb : Below w.heap.size w w4 := ((Below.refl _ _).alloc (Nat.le_refl _) _).grown HG.out (by simp) (fun k hk => by simp [Value.ownBlock] at hk; omega)
  have hown : w4.ownsRow w.heap.size 41 1 v2 k xs := by
    have := HO4.out
    simpa using this
  obtain ⟨A', hr, hH'⟩ := H0.out.rowNew (H0.out.below hb (Nat.le_refl _)) hown (Nat.le_refl _)
  exact ⟨v2, A', rfl, hr, hH'⟩
end

section
variable {D D' : Dk} {H : Hl} {b0 : Int} {l : List Bt} {L2 : List (Nat × Sg)} {s : Nat} {G : Sg}
/-- The first segment is let be none. -/
theorem HotOn.rest (h : HotOn D H b0 l) (hL : H.L = (s, G) :: L2) : HotOn (D.remove G.nm).sdir { H with L := L2 } G.end_ ((L2.map (·.2.l)).flatten) := by
  have hL' : H.L = [] ++ (s, G) :: L2 := hL
  obtain ⟨c1, c2, c3, c4, c5⟩ := h.split hL'
  have hgm : (s, G) ∈ H.L := by rw [hL]; simp
  have hnm0 := h.nm0 hgm
  dsimp only at hnm0
  obtain ⟨f, f1, -, -⟩ := (h.sg _ hgm).1.f
  have hI := remove_I h.I hnm0
  have hin : ∀ p, p ∈ L2 → p ∈ H.L := fun p hp => by rw [hL]; exact List.mem_cons_of_mem _ hp
  have hs := sdir_same hI
  have hrr : (D.remove G.nm).room = D.room := by show D.beg.room = _; rw [h.I.beg]
  have hrn : (D.remove G.nm).n = D.n := by show D.beg.n = _; rw [h.I.beg]
  have hlen := remove_len h.I hnm0 f1
  have hnml := h.nml
  rw [hL, List.length_cons] at hnml
  have hlk : ∀ s', (D.remove G.nm).sdir.look s' = if s' = G.nm then none else D.look s' := fun s' => by rw [sdir_look hI, remove_look hnm0]
  have hu : (D.remove G.nm).sdir.used ≤ D.used := by rw [sdir_used hI]; exact remove_used hnm0
  have hrm : (D.remove G.nm).sdir.room = D.room := hs.room.trans hrr
  have hu' : (D.remove G.nm).sdir.used ≤ (D.remove G.nm).sdir.room := by rw [hrm]; exact Nat.le_trans hu h.used
  have hsg : ∀ p, p ∈ L2 → SegOn (D.remove G.nm).sdir p.2 := fun p hp => (h.sg p (hin p hp)).1.keep (sdir_I hI) (by rw [hrm]; exact h.room) hu' (by rw [hlk, if_neg (h.names hL' p (.inr hp))])
  have hnd := h.nmND
  rw [hL, List.map_cons, List.nodup_cons] at hnd
  have hlkk := h.lk
  rw [hL] at hlkk
  have hge := h.segend hgm
  dsimp only at hge
  have hg0 := h.b0
  have hcc : Chain G.end_ 0 ((L2.map (·.2.l)).flatten) := by
    have hep : (0 : Int) ≤ epOf 0 ((([] : List (Nat × Sg)).map (·.2.l)).flatten ++ G.l) := by
      have hc := h.chain hL'
      exact chain_ep _ _ _ hc
    exact chain_low _ _ _ _ hep c4
  refine ⟨fun p hp => ⟨hsg p hp, (h.sg p (hin p hp)).2⟩, sdir_I hI, by rw [hrm]; exact h.room, hu', hlkk.2.2, rfl, hcc, fun s' hs' => ?_, by rw [hs.nml]; show (D.remove G.nm).nm.length = L2.length; omega, by rw [hs.n, hrn]; exact h.n, rfl, (beg_fl _).2.1.symm, h.e1, h.e2, by have : (G.base : Int) = b0 := hlkk.1; omega, ?_⟩
  · rw [hlk]
    split
    · rfl
    · rename_i hne
      refine h.only s' (fun p hp => ?_)
      rw [hL] at hp
      rcases List.mem_cons.1 hp with rfl | hp
      · exact fun e => hne e.symm
      · exact hs' p hp
  · refine used_all _ L2 _ (sdir_I hI).nd hnd.2 (fun p hp => ?_)
    obtain ⟨f, f1, f2, -⟩ := (hsg p hp).f
    obtain ⟨k1, k2⟩ := look_some f1
    exact ⟨f, f.blk, k1, k2, by rw [f2, flatB_len]⟩
end

section
variable {S : List Nat} {E : Nat → Addr} {B : Nat} {P : Pm} {h s : Nat} {H : Hl} {G : Sg} {D : Dk} {A Ad F : Mm} {w : World} {b0 : Int} {l : List Bt} {L2 : List (Nat × Sg)}
set_option maxRecDepth 100000 in
theorem hdrop_one (C : Ctx S E B P) (hM : HlM h H A) (hL : H.L = [(s, G)]) (hH : Hp w P (A ++ F)) :
    Calls Tryz.prog 36 #[ptr h] w fun e w' => e = .returned (.iface 291 (.pointer (some (E 6)))) ∧ Hp w' P (A ++ F) := by
  obtain ⟨a, c, hc, hat⟩ := hM.at_
  obtain ⟨-, -, -, c3, -, -, -⟩ := hat w P _ hH
  have hlen : H.L.length = 1 := by rw [hL]; rfl
  rw [hlen] at c3
  have ce : w.cell? ⟨5, 0, none⟩ = some (.iface 291 (.pointer (some (E 6)))) := (hH.use C.errs).at_ 6 (C.all 6 (by omega))
  have H0 := Lib.hid hH
  clear hH hat
  go_enter Tryz.func36, Tryz.ntmps36
  go_wp2_with fail
  go_ret
  exact ⟨rfl, H0.out⟩

set_option maxRecDepth 100000 in
set_option maxHeartbeats 4000000 in
theorem hdrop_ok (C : Ctx S E B P) (hM : HlM h H A) (hO : HotOn D H b0 l) (hD : DkM P H.d D Ad) (hL : H.L = (s, G) :: L2) (hne : L2 ≠ []) (hH : Hp w P (A ++ (Ad ++ F))) :
    Calls Tryz.prog 36 #[ptr h] w fun e w' => e = .returned .nilIface ∧ ∃ A' Ad' D', HlM h { H with L := L2 } A' ∧ DkM P H.d D' Ad' ∧ HotOn D' { H with L := L2 } G.end_ ((L2.map (·.2.l)).flatten) ∧ Hp w' P (A' ++ (Ad' ++ F)) := by
  have hrest := hO.rest hL
  have hgm : (s, G) ∈ H.L := by rw [hL]; simp
  obtain ⟨g1, g2, g3, g4⟩ := hO.sg _ hgm
  dsimp only at g1 g2 g3 g4
  have e1 := un_of hO.I.arm hO.I.down
  have hsm := hO.small.2
  have hlen2 : H.L.length = L2.length + 1 := by rw [hL]; rfl
  obtain ⟨m, hm⟩ : ∃ m, L2.length = m := ⟨_, rfl⟩
  have hm0 : 0 < m := by rw [← hm]; exact List.length_pos_iff.2 hne
  rw [hm] at hlen2
  obtain ⟨A1, R, hG1, hp, -⟩ := hM.focus (l1 := []) hL
  obtain ⟨lv, Al, As, hA, hr, hS⟩ := id hM
  rw [hL] at hS
  obtain ⟨B1, As2, rfl, hS1, hS2⟩ := hS
  rw [hlen2] at hr
  obtain ⟨ga, gc, hgv⟩ := hr.shape
  subst hgv
  have hcellp : ∀ w' F', Hp w' P (A ++ F') → ∃ g, ga = some ⟨g, 0, none⟩ ∧ m + 1 ≤ gc ∧ ∀ (j : Nat) p, H.L[j]? = some p → w'.cell? ⟨g, j, none⟩ = some (ptr p.1) := fun w' F' hx => by
    rw [hA] at hx
    have hx2 : Hp w' P (Al ++ ((h, Obj.cells (hlCells H (.slice ga (m + 1) gc)) 122 (0, 0)) :: ((B1 ++ As2) ++ F'))) := by
      have := Hp.mid (A := [(h, Obj.cells (hlCells H (.slice ga (m + 1) gc)) 122 (0, 0))]) (B := Al) (C := (B1 ++ As2) ++ F') (by simpa [List.append_assoc] using hx)
      simpa [List.append_assoc] using this
    have hcl : ∀ (j : Nat) p, H.L[j]? = some p → ∃ g c, (Value.slice ga (m + 1) gc) = .slice (some ⟨g, 0, none⟩) (m + 1) c ∧ m + 1 ≤ c ∧ w'.cell? ⟨g, j, none⟩ = some (ptr p.1) := fun j p hj => RowM.cell hr hx2 (j := j) (u := ptr p.1) (by unfold ptrsL; rw [List.getElem?_map, hj]; rfl)
    obtain ⟨g, c, e, e2, -⟩ := hcl 0 (s, G) (by rw [hL]; rfl)
    simp only [Value.slice.injEq] at e
    obtain ⟨rfl, -, rfl⟩ := e
    refine ⟨g, rfl, e2, fun j p hj => ?_⟩
    obtain ⟨g', c', e, -, e3⟩ := hcl j p hj
    simp only [Value.slice.injEq] at e
    obtain ⟨e, -, -⟩ := e
    cases e
    exact e3
  obtain ⟨g, rfl, hgc, hcl0⟩ := hcellp w _ hH
  have c0 := hcl0 0 (s, G) (by rw [hL]; rfl)
  have hat3 : ∀ w' F', Hp w' P (A ++ F') → w'.cell? ⟨h, 3, none⟩ = some (.slice (some ⟨g, 0, none⟩) (m + 1) gc) ∧ w'.cell? ⟨h, 0, none⟩ = some (ptr H.d) := fun w' F' hx =>
    ⟨hx.cell (b := h) (c := hlCells H (.slice (some ⟨g, 0, none⟩) (m + 1) gc)) (t := 122) (fr := (0, 0)) (by rw [hA]; simp) rfl, hx.cell (b := h) (c := hlCells H (.slice (some ⟨g, 0, none⟩) (m + 1) gc)) (t := 122) (fr := (0, 0)) (by rw [hA]; simp) rfl⟩
  obtain ⟨y3, y0⟩ := hat3 _ _ hH
  have hDG : DkM P G.d D Ad := by rw [g2]; exact hD
  have hSG : SegOn D.un G := by rw [e1]; exact g1
  have H0 := Lib.hid hH
  have HSUB : Hid (∀ X : Mm, List.Perm (A ++ (X ++ F)) (A1 ++ (X ++ (R ++ F)))) := fun X => (hp (X ++ F)).trans (List.Perm.append_left A1 (perm_mid R X F))
  have HRE := Lib.hid hrest
  have HOI := Lib.hid hO.I
  have HAT := Lib.hid hat3
  have HCL := Lib.hid hcellp
  have HAA := Lib.hid hA
  have HS2 := Lib.hid hS2
  have HM := Lib.hid hm
  have HLX := Lib.hid hL
  have HGD := Lib.hid g2
  have HSG := Lib.hid hSG
  have HDG := Lib.hid hDG
  have hlen3 : D.nm.length < 1000000 ∧ D.ch.length ≤ 1000000 := by rw [hO.nml, hO.c0]; omega
  have hmm : m ≤ 1000000 := by omega
  clear hH hrest g1 g3 hO hat3 hA hr hS1 hS2 hm hL hgm e1 hp hDG hSG hcl0 hcellp hsm
  have n1 : ¬ ((m + 1 : Nat) : Int) < 2 := by omega
  have n2 : ¬ (m : Int) + 1 < 2 := by omega
  go_enter Tryz.func36, Tryz.ntmps36
  go_wp2_with fail
  refine (sremove_k C HOI.out.ok hG1 HSG.out HDG.out hlen3.1 hlen3.2 (H0.out.perm (HSUB.out Ad))).mono ?_
  rintro e w1 ⟨rfl, Ad1, hD1, hH1⟩
  have hH2 := hH1.perm (HSUB.out Ad1).symm
  obtain ⟨y3, y0⟩ := HAT.out _ _ hH2
  obtain ⟨g', eg, hgc', hcl⟩ := HCL.out _ _ hH2
  cases eg
  have hxs : ∀ (j : Nat) u, (ptrsL L2)[j]? = some u → w1.cell? ⟨g, 1 + j, none⟩ = some u := fun j u hj => by
    unfold ptrsL at hj
    rw [List.getElem?_map] at hj
    cases hq : L2[j]? with
    | none => rw [hq] at hj; cases hj
    | some p =>
      rw [hq] at hj
      simp only [Option.map_some, Option.some.injEq] at hj
      rw [← hj, Nat.add_comm]
      exact hcl (j + 1) p (by rw [HLX.out, List.getElem?_cons_succ]; exact hq)
  have hcln := fun (hx : Hp w1 P (A ++ (Ad1 ++ F))) => clonesg_ok g 1 m (gc - 1) (ptrsL L2) (by unfold ptrsL; rw [List.length_map, HM.out]; omega) (by intro u hu; unfold ptrsL at hu; obtain ⟨p, -, rfl⟩ := List.mem_map.1 hu; rfl) hxs hmm hx
  have HCLN := Lib.hid hcln
  have H2 := Lib.hid hH2
  have HD1 := Lib.hid hD1
  have i1 : (1 : Int) ≤ ((m + 1 : Nat) : Int) := by omega
  have i2 : (1 : Int) ≤ (m : Int) + 1 := by omega
  have i3 : ¬ gc = 1 := by omega
  have i4 : ((m : Int) + 1) ≤ (gc : Int) := by omega
  clear hH1 hH2 hxs hcln hD1 hcl
  go_wp2_with fail
  refine (HCLN.out H2.out).mono ?_
  rintro e w2 ⟨v2, A2, rfl, hr2, hH3⟩
  obtain ⟨va, vc, rfl⟩ := hr2.shape
  have hH4 : Hp w2 P ((h, Obj.cells (hlCells H (.slice (some ⟨g, 0, none⟩) (m + 1) gc)) 122 (0, 0)) :: (A2 ++ (Al ++ (B1 ++ (As2 ++ (Ad1 ++ F)))))) := by
    have h1 := hH3
    rw [HAA.out] at h1
    have := Hp.mid (A := A2) (B := [(h, Obj.cells (hlCells H (.slice (some ⟨g, 0, none⟩) (m + 1) gc)) 122 (0, 0))]) (C := Al ++ (B1 ++ (As2 ++ (Ad1 ++ F)))) (by simpa [List.append_assoc] using h1)
    simpa [List.append_assoc] using this
  have k3 := (@Hp.cell _ _ _ hH4 h _ _ (0, 0) List.mem_cons_self) (i := 3) rfl
  have k0 := (@Hp.cell _ _ _ hH4 h _ _ (0, 0) List.mem_cons_self) (i := 0) rfl
  have f3 := @Hp.frozen _ _ _ hH4 h _ _ List.mem_cons_self 3
  have H4 := Lib.hid hH4
  have HR2 := Lib.hid hr2
  clear hH3 hH4 hr2
  go_wp2_with fail
  have hz := H4.out.set 3 (.slice va m vc)
  generalize w2.setCell ⟨h, 3, none⟩ (.slice va m vc) = w3 at hz ⊢
  have hH5 : Hp w3 P (Ad1 ++ (((h, Obj.cells (hlCells H (.slice va m vc)) 122 (0, 0)) :: (A2 ++ As2)) ++ F)) := by
    have h1 : Hp w3 P (((h, Obj.cells (hlCells H (.slice va m vc)) 122 (0, 0)) :: A2) ++ ((Al ++ B1) ++ (As2 ++ (Ad1 ++ F)))) := by simpa [hlCells, List.append_assoc] using hz
    have h2 := (Hp.mid h1).drop
    have h3 := Hp.mid (A := (h, Obj.cells (hlCells H (.slice va m vc)) 122 (0, 0)) :: (A2 ++ As2)) (B := Ad1) (C := F) (by simpa [List.append_assoc] using h2)
    exact h3
  have hMn : HlM h { H with L := L2 } ((h, Obj.cells (hlCells H (.slice va m vc)) 122 (0, 0)) :: (A2 ++ As2)) := ⟨.slice va m vc, A2, As2, rfl, by show RowM _ 1 _ L2.length (ptrsL L2) A2; rw [HM.out]; exact HR2.out, HS2.out⟩
  have hI1 := remove_I (D := D) (s := G.nm) HOI.out (by
    rw [g4]
    intro e
    have := segNm_len G.base
    rw [e] at this
    simp at this)
  have H5 := Lib.hid hH5
  have HMN := Lib.hid hMn
  have HI1 := Lib.hid hI1
  clear hz hH5 hMn hI1
  have hH6 : Hp w3 P ((h, Obj.cells (hlCells H (.slice va m vc)) 122 (0, 0)) :: ((A2 ++ As2) ++ (Ad1 ++ F))) := by
    have := Hp.mid H5.out
    simpa [List.append_assoc] using this
  have k0 : w3.cell? ⟨h, 0, none⟩ = some (ptr H.d) := (@Hp.cell _ _ _ hH6 h _ _ (0, 0) List.mem_cons_self) (i := 0) rfl
  have hDx : DkM P H.d (D.remove G.nm) Ad1 := by rw [← HGD.out]; exact HD1.out
  have HDX := Lib.hid hDx
  have H6 := Lib.hid hH6
  clear hH6 hDx
  go_wp2_with fail
  refine (sdir_ok C HDX.out H5.out HI1.out.ok).mono ?_
  rintro e w4 ⟨rfl, Ad2, hD2, hH7⟩
  have H7 := Lib.hid (Hp.mid hH7)
  have HD2 := Lib.hid hD2
  clear hD2 hH7
  go_wp2_with fail
  go_ret
  exact ⟨rfl, (h, Obj.cells (hlCells H (.slice va m vc)) 122 (0, 0)) :: (A2 ++ As2), Ad2, (D.remove G.nm).sdir, HMN.out, HD2.out, HRE.out, H7.out⟩
end
end Go.Proofs.YthocnhdefnbchaaGreatDoor.Sg
