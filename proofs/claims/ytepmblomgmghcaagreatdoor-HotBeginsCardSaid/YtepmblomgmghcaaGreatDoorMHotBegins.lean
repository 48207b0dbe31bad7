/- cordwoodlaw10.all, joined; Row's batches of at most thirty numbers; the segments' triples. hot.Open of a bad config; Log.Begin of a log that has a segment; Log.Flush, Log.Synced. cordwoodlaw10.HotBegins answers true for every input. The table of powers and the errors out of the lists of chapter 10's rows. The statement HotBegins of chapter 10 holds for every input: the call returns true and leaves its arguments as they were. -/
import Derived.Test.YtepmblomgmghcaaGreatDoorMl
import Derived.Test.YtepmblomgmghcaaGreatDoorMg
import Derived.Test.YtepmblomgmghcaaGreatDoorMi
import Derived.Test.YtepmblomgmghcaaGreatDoorMe
import Derived.Test.YtepmblomgmghcaaGreatDoorMf
import Derived.Test.YtepmblomgmghcaaGreatDoorRows
import Derived.Test.YtepmblomgmghcaaGreatDoorCards
import Derived.Test.YtepmblomgmghcaaGreatDoorTie
import Derived.ChangeKeysEq
import Derived.Stop.LaidErr
import Derived.ProofKit
import Derived.OpenShut
import Derived.LaidMore
import Derived.Deep.DeepWitnessRowRef

/-! Hr -/
namespace Go.Proofs.YtepmblomgmghcaaGreatDoor.Sg
open Go.RowKit Er Go.Maps

theorem row_rn (every : Nat) : ∀ (l : List Int) (i : Nat) (a : Int), ∀ x, x ∈ rowGo every l i a → x.r.length ≤ 5
  | [], _, _, x, hx => by cases hx
  | s :: l, i, a, x, hx => by
    rcases List.mem_cons.1 hx with rfl | hx
    · rw [rBt_len]; exact (rN_pos s).2
    · exact row_rn every l _ _ x hx
theorem szB_le5 (x : Bt) (h : BtOk x) (hr : x.r.length ≤ 5) : szB x ≤ 3200 := by
  have h0 := batB_len x
  have h1 := bodyR_len (t0 x) x.r (t0_in x h) h.rs
  have h2 := vput_len64 (zig (t0 x)) (by have := t0_in x h; have := zig_lt (t0 x) (by omega) (by omega); omega)
  have h3 : (bodyB x).length ≤ 3100 := by simp [bodyB, headB, leB_len]; omega
  unfold szB; omega
theorem row30 (every : Nat) (xs : List Int) (base : Nat) (hb : base ≤ 1073741824) (hx : xs.length ≤ 30) : Chain base 0 (rowGo every xs 0 base) ∧ (∀ x, x ∈ rowGo every xs 0 base → BtOk x ∧ BtBy x) ∧ sizes (rowGo every xs 0 base) ≤ 96000 := by
  have hok := row_ok every xs 0 base (by omega) (by omega) (by omega)
  refine ⟨row_chain every xs 0 base 0 (by have := (rEp_mono every 0).2; omega), hok, ?_⟩
  have h : ∀ L : List Bt, (∀ x, x ∈ L → szB x ≤ 3200) → sizes L ≤ L.length * 3200 := by
    intro L
    induction L with
    | nil => intro _; simp [sizes]
    | cons x L ih =>
      intro h
      have h1 := h x List.mem_cons_self
      have h2 := ih (fun y hy => h y (List.mem_cons_of_mem _ hy))
      simp only [sizes, List.map_cons, List.sum_cons, List.length_cons] at h2 ⊢
      omega
  have h1 := h _ (fun x hx => szB_le5 x (hok x hx).1 (row_rn every xs 0 base x hx))
  rw [row_len] at h1
  omega

theorem row_m {P : Pm} {F : Mm} {w : World} (hH : Hp w P F) (a : Option Addr) (xs : List Int) (c n : Nat) (hn : xs.length = n) (hr : Pers P (fun w => IntsR w a xs)) (every : Nat) (he : every ≤ 1000000) (hx : n ≤ 1000000) (base : Int) (h0 : 0 ≤ base) (h1 : base ≤ 1099511627776) :
    Calls Tryz.prog 29 #[.int .i64 base, .slice a n c, .int .i64 every] w fun e w' => ∃ v P' out, e = .returned v ∧ Sub P P' ∧ out.map (·.1) = rowGo every xs 0 base ∧ BtsP P' v out ∧ Hp w' P' F := by
  subst hn
  exact row_p hH a xs c hr every he hx base h0 h1

/-- Two triples alike are equal. -/
theorem eqTri (u0 u1 u2 : Int) (w : World) : Sem.run Tryz.prog (Op.equalIn 10000 61 (.agg #[.int .i64 u0, .int .i64 u1, .int .i64 u2]) (.agg #[.int .i64 u0, .int .i64 u1, .int .i64 u2])) w = .ok true w := by
  obtain ⟨i, hi⟩ := info_of_underlying Tryz.underlying2
  have h := run_equalIn_array (P := Tryz.prog) w 9999 (t := 61) #[.int .i64 u0, .int .i64 u1, .int .i64 u2] #[.int .i64 u0, .int .i64 u1, .int .i64 u2] (n := 3) (e := 2) Tryz.underlying61 hi
  have hc : Tryz.prog.cellsOf 2 = 1 := by kernel_rfl
  rw [h, hc, show List.range 3 = [0, 1, 2] from rfl]
  simp [Op.eqItems, part, go_sem]

/-- Triples of lists of batches one behind the other. -/
def triL : Int → List (List Bt) → List Tri
  | _, [] => []
  | b, m :: ms => (b, endOf b m, sizes m) :: triL (endOf b m) ms
theorem triL_snoc : ∀ (ms : List (List Bt)) (b : Int) (m : List Bt), triL b (ms ++ [m]) = triL b ms ++ [(endOf b ms.flatten, endOf b (ms ++ [m]).flatten, sizes m)]
  | [], b, m => by simp [triL, endOf]
  | x :: ms, b, m => by
    show (b, endOf b x, sizes x) :: triL (endOf b x) (ms ++ [m]) = _
    rw [triL_snoc ms]
    simp only [List.flatten_cons, List.cons_append, endOf_app, triL, List.flatten_append]
theorem triL_len : ∀ (ms : List (List Bt)) (b : Int), (triL b ms).length = ms.length
  | [], _ => rfl
  | m :: ms, b => by simp [triL, triL_len ms]
theorem lk_tri : ∀ (L : List (Nat × Sg)) (b : Int), Lk b (L.map (·.2)) → L.map (fun p => triG p.2) = triL b (L.map (·.2.l))
  | [], _, _ => rfl
  | p :: L, b, ⟨h1, _, h3⟩ => by
    have := lk_tri L _ h3
    rw [List.map_cons, List.map_cons, this]
    show (triG p.2 :: triL p.2.end_ (L.map (·.2.l))) = (b, endOf b p.2.l, sizes p.2.l) :: triL (endOf b p.2.l) (L.map (·.2.l))
    rw [← h1, ← end_eq]; rfl

section
variable {S : List Nat} {E : Nat → Addr} {B : Nat} {P : Pm} {h : Nat} {H : Hl} {D : Dk} {A Ad F : Mm} {w : World} {b0 : Int} {l : List Bt}

/-- Where one stands behind so many segments: at the end, or ahead of a segment that has batches. -/
theorem HotOn.upto (hO : HotOn D H b0 l) (k : Nat) (hk : k ≤ H.L.length) :
    (endOf b0 ((H.L.take k).map (·.2.l)).flatten = endOf b0 l ∧ ((H.L.take k).map (·.2.l)).flatten = l) ∨
    ∃ (hk : k < H.L.length), endOf b0 ((H.L.take k).map (·.2.l)).flatten < endOf b0 l ∧ ((H.L[k]).2.base : Int) = endOf b0 ((H.L.take k).map (·.2.l)).flatten ∧ (H.L[k]).2.l ≠ [] := by
  by_cases hkn : k < H.L.length
  · have hsp : H.L = H.L.take k ++ ((H.L[k]).1, (H.L[k]).2) :: H.L.drop (k + 1) := HlM.nth k hkn
    obtain ⟨h1, h2, h3, h4, h5⟩ := hO.split hsp
    by_cases he : (H.L[k]).2.l = []
    · left
      have hd : H.L.drop (k + 1) = [] := Classical.byContradiction fun hd => by
        have hk2 := hO.lk
        rw [hsp, List.map_append, List.map_cons] at hk2
        exact (hk2.app.2.1 (by simpa using hd)).1 he
      rw [hd, he] at h5
      have h6 : ((H.L.take k).map (·.2.l)).flatten = l := by rw [h5]; simp
      exact ⟨by rw [h6], h6⟩
    · right
      refine ⟨hkn, ?_, h2, he⟩
      have hr : ∀ x, x ∈ ((H.L.drop (k + 1)).map (·.2.l)).flatten → 1 ≤ x.r.length := fun x hx => (hO.ok x (by rw [h5]; simp only [List.mem_append]; exact .inr (.inr hx))).1.n1
      have hg := chain_ge _ _ _ h4 hr
      have hs := hO.segend (p := ((H.L[k]).1, (H.L[k]).2)) (show H.L[k] ∈ H.L from List.getElem_mem hkn)
      have hl : 0 < (H.L[k]).2.l.length := List.length_pos_iff.2 he
      have e1 : endOf b0 l = endOf (H.L[k]).2.end_ ((H.L.drop (k + 1)).map (·.2.l)).flatten := by
        conv => lhs; rw [h5, endOf_app, endOf_app, ← h2, ← end_eq]
      rw [e1, ← h2]
      dsimp only at hs
      omega
  · left
    have e : H.L.take k = H.L := List.take_of_length_le (by omega)
    rw [e, hO.fl]
    exact ⟨rfl, rfl⟩
theorem perm_t (A B C E : Mm) : List.Perm (A ++ (B ++ (C ++ E))) (C ++ (A ++ (B ++ E))) := by
  have := perm_mid (A ++ B) C E
  simpa [List.append_assoc] using this

/-- What holds at the head of all's loop. -/
def All10Rel (P : Pm) (F A Ad : Mm) (H : Hl) (b0 : Int) (m : Nat) (vo va : Value) (w : World) : Prop :=
  ∃ (k : Nat) (P' : Pm) (out : List (Bt × Value)) (Ao : Mm), k + m = H.L.length ∧ va = .int .i64 (endOf b0 ((H.L.take k).map (·.2.l)).flatten) ∧ Sub P P' ∧ BtsM P' vo ((H.L.take k).map (·.2.l)).flatten out Ao ∧ Hp w P' (A ++ (Ad ++ (Ao ++ F)))

set_option maxRecDepth 100000 in
set_option maxHeartbeats 2000000 in
theorem all10_ok (C : Ctx S E B P) (hM : HlM h H A) (hO : HotOn D H b0 l) (hne : H.L ≠ []) (hD : DkM P H.d D Ad) (hsz : sizes l ≤ 1048576) (hll : l.length ≤ 1000) (hH : Hp w P (A ++ (Ad ++ F))) :
    Calls Tryz.prog 43 #[ptr h] w fun e w' => ∃ v out P', e = .returned (.tuple #[v, .bool true]) ∧ Sub P P' ∧ out.map (·.1) = l ∧ BtsP P' v out ∧ Hp w' P' (A ++ (Ad ++ F)) := by
  have hst := hO.hstart hne
  have hen := hO.hend hne
  have HST := Lib.hid hst
  have HEN := Lib.hid hen
  have HM := Lib.hid hM
  have HO := Lib.hid hO
  have HD := Lib.hid hD
  have H0 := Lib.hid hH
  have HSZ := Lib.hid hsz
  clear hst hen hM hO hD hH hsz hne
  obtain ⟨en, hen2⟩ : ∃ en, endOf b0 l = en := ⟨_, rfl⟩
  go_enter Tryz.func43, Tryz.ntmps43
  go_wp2_with fail
  refine (hstart_ok HM.out HO.out.W H0.out).mono ?_
  rintro e w1 ⟨rfl, hH1⟩
  rw [HST.out]
  have H1 := Lib.hid hH1
  clear hH1
  go_wp2_with fail
  go_loopg [4, 5] H.L.length (fun m vo va wr => All10Rel P F A Ad H b0 m vo va wr)
  case atStart => exact ⟨0, P, [], [], by omega, rfl, Sub.refl _, BtsM.nil P, H1.out⟩
  case round =>
    obtain ⟨k, P1, out, Ao, hk, rfl, hs1, hB, hHr⟩ := hrel
    obtain ⟨va, vc, rfl⟩ := hB.row.shape
    rcases HO.out.upto k (by omega) with ⟨heq, hfl⟩ | ⟨hkn, hlt, hbase, hgl⟩
    · rw [heq]
      have HR := Lib.hid hHr
      have HB := Lib.hid hB
      have HS1 := Lib.hid hs1
      have HFL := Lib.hid hfl
      rw [hen2]
      rw [hfl]
      clear hHr hB hs1 hfl heq
      go_wp2_with fail
      refine (hend_ok HM.out HO.out.W HR.out).mono ?_
      rintro e w2 ⟨rfl, hH2⟩
      rw [HEN.out, hen2]
      have H2 := Lib.hid hH2
      clear hH2
      go_wp2_with fail
      go_ret2
      obtain ⟨P2, hs2, hb2, hH3⟩ := HB.out.seal (H2.out.perm (perm_t A Ad Ao F))
      have hmm := HB.out.map.trans HFL.out
      rw [HFL.out] at hb2
      exact ⟨.slice va l.length vc, out, P2, rfl, HS1.out.trans hs2, hmm, hb2, hH3⟩
    · obtain ⟨gj, rfl⟩ : ∃ x, gk = x + 1 := ⟨gk - 1, by omega⟩
      rw [hen2] at hlt
      have hsp : H.L = H.L.take k ++ ((H.L[k]).1, (H.L[k]).2) :: H.L.drop (k + 1) := HlM.nth k hkn
      have hch := HO.out.chain hsp
      have hgm : ((H.L[k]).1, (H.L[k]).2) ∈ H.L := (show H.L[k] ∈ H.L from List.getElem_mem hkn)
      have hse := HO.out.segend hgm
      have hsg := sum_sub H.L _ hgm
      rw [HO.out.fl] at hsg
      have hokG := (HO.out.sg _ hgm).1.ok
      have hbyG := (HO.out.sg _ hgm).1.by_
      have htk : ((H.L.take (k + 1)).map (·.2.l)).flatten = ((H.L.take k).map (·.2.l)).flatten ++ (H.L[k]).2.l := by rw [take_next H.L k hkn]; simp only [List.map_append, List.map_cons, List.map_nil, List.flatten_append, List.flatten_cons, List.flatten_nil, List.append_nil]
      have hlen2 : ((H.L.take k).map (·.2.l)).flatten.length + (H.L[k]).2.l.length ≤ 1000 := by
        have h5 := (HO.out.split hsp).2.2.2.2
        have := congrArg List.length h5
        simp only [List.length_append] at this
        omega
      obtain ⟨s, hs⟩ : ∃ s, (H.L[k]).1 = s := ⟨_, rfl⟩
      obtain ⟨G, hG⟩ : ∃ G, (H.L[k]).2 = G := ⟨_, rfl⟩
      rw [hG] at hgl hbase hch hse hsg hokG hbyG htk hlen2
      rw [hs, hG] at hsp
      try dsimp only at hse hsg hokG hbyG
      obtain ⟨g0, x, hgx⟩ : ∃ g0 x, G.l = g0 ++ [x] := by
        rcases snoc_cases G.l with h0 | h0
        · exact absurd h0 hgl
        · exact h0
      have hxo : BtOk x := hokG x (by rw [hgx]; simp)
      have hend2 : endOf b0 ((H.L.take (k + 1)).map (·.2.l)).flatten = x.b + x.r.length := by rw [htk, hgx, ← List.append_assoc, endOf_snoc]
      have hgl1 : 0 < G.l.length := List.length_pos_iff.2 hgl
      have hall : rdGo G.base 1048576 G.l [] 0 = G.l := rdGo_all G.base 1048576 G.l [] 0 _ _ hch (Int.le_refl _) (fun y hy => (hokG y hy).n1) (by have := HSZ.out; omega)
      obtain ⟨P0, hP0⟩ : ∃ z, ((H.L.take k).map (·.2.l)).flatten = z := ⟨_, rfl⟩
      rw [hP0] at hlt hB hbase htk hlen2
      rw [← hbase] at hlt
      rw [hP0, ← hbase]
      have hss : G.base < G.end_ := by omega
      have HR := Lib.hid (hHr)
      have HB := Lib.hid hB
      have HS1 := Lib.hid hs1
      have HALL := Lib.hid hall
      have HSP := Lib.hid hsp
      have HTK := Lib.hid htk
      have HGX := Lib.hid hgx
      have HE2 := Lib.hid hend2
      have HXO := Lib.hid hxo
      have HLE := Lib.hid hlen2
      have HP0 := Lib.hid hP0
      clear hHr hB hs1 hall hsp htk hgx hend2 hxo hlen2 hch hgm hsg hokG hbyG hG hs hbase hP0
      go_wp2_with fail
      refine (hend_ok HM.out HO.out.W HR.out).mono ?_
      rintro e w2 ⟨rfl, hH2⟩
      rw [HEN.out, hen2]
      have H2 := Lib.hid hH2
      clear hH2
      go_wp2_with fail
      refine (hread_seg (C.sub HS1.out) HM.out HO.out (HD.out.sub HS1.out) HSP.out G.base 1048576 (Int.le_refl _) hss (by decide) (by decide) H2.out).mono ?_
      rintro e w3 ⟨v3, out3, P3, rfl, hs3, hm3, hb3, hH3⟩
      rw [HALL.out] at hm3
      obtain ⟨sa, sc, rfl, hsc⟩ := hb3.shape
      have hol : out3.length = G.l.length := by rw [← hm3, List.length_map]
      rw [hol] at hb3 hsc ⊢
      have hj : G.l.length - 1 < out3.length := by omega
      obtain ⟨g, off, cap, hvv, hcap, hbc⟩ := hb3.at_ hj
      have hx3 : (out3[G.l.length - 1]'hj).1 = x := by
        have h1 : (out3.map (·.1))[G.l.length - 1]? = some x := by rw [hm3, HGX.out]; simp
        rw [List.getElem?_map, List.getElem?_eq_getElem hj] at h1
        simpa using h1
      have H3 := Lib.hid (hH3.perm (perm_t A Ad Ao F))
      have HB3 := Lib.hid hb3
      have HS3 := Lib.hid hs3
      have HBC := Lib.hid hbc
      have HM3 := Lib.hid hm3
      have HX3 := Lib.hid hx3
      have HOL := Lib.hid hol
      have hne3 : (G.l.length : Int) ≠ 0 := by omega
      simp only [hol] at hvv
      simp only [Value.slice.injEq] at hvv
      obtain ⟨rfl, -, rfl⟩ := hvv
      obtain ⟨n3, hn3⟩ : ∃ n, G.l.length = n + 1 := ⟨G.l.length - 1, by omega⟩
      rw [hn3] at HB3 HOL hsc ⊢
      have HN3 := Lib.hid hn3
      have hnb : n3 ≤ 1000 := by have := HLE.out; omega
      clear hH3 hs3 hb3 hbc hm3 hx3 hne3 hol
      go_wp2_with (at_builtin; refine wpList_app_bts rfl _ _ rfl (.slice va P0.length vc) P0 out rfl (HB.out.sub HS3.out) (.slice (some ⟨g, off, none⟩) (n3 + 1) sc) out3 rfl HB3.out H3.out (by have := HLE.out; rw [HOL.out]; omega) ?_)
      intro v4 w4 A4 hbm4 hH4
      obtain ⟨ya, yc, rfl⟩ := hbm4.row.shape
      obtain ⟨-, c0, c1, c2, hrc⟩ := hH4.use HBC.out
      have hbv : BtV w4 (.agg #[.int .i64 x.b, .int .i64 x.e, (out3[G.l.length - 1]'hj).2]) x := ⟨_, rfl, by have := hrc; rwa [HX3.out] at this⟩
      rw [HX3.out] at c0 c1
      obtain ⟨p2, hp2⟩ : ∃ p2, (out3[G.l.length - 1]'hj).2 = p2 := ⟨_, rfl⟩
      rw [hp2] at c2 hbv
      rw [HN3.out, show n3 + 1 - 1 = n3 from rfl] at c0 c1 c2
      have H4 := Lib.hid hH4
      have HBM4 := Lib.hid hbm4
      clear hH4 hbm4 hrc hp2
      go_wp2_with fail
      refine (rnext_any x (by have := HXO.out.b0; omega) (by have := HXO.out.b1; omega) (by have := HXO.out.n64; omega) _ _ hbv).mono ?_
      rintro e w5 ⟨rfl, hb5⟩
      have H5 := Lib.hid (H4.out.below hb5 (Nat.le_refl _))
      clear hb5
      go_wp2_with fail
      go_roundg gj
      case measure => omega
      case rel =>
        refine ⟨k + 1, P3, out ++ out3, A4, by omega, by rw [HE2.out], HS1.out.trans HS3.out, ?_, ?_⟩
        · rw [HTK.out, ← HM3.out]; have := HBM4.out; rwa [List.length_append, List.length_map] at this
        · have := perm_mid A4 (A ++ Ad) F
          exact H5.out.perm (by simpa [List.append_assoc] using this)

theorem joined10_ok {w : World} {v1 v2 : Value} {L : List Bt} (h1 : BtsR w v1 L) (h2 : BtsR w v2 L) (hl : L.length ≤ 1000000000) (hs : ∀ x, x ∈ L → BtSm x) :
    Calls Tryz.prog 44 #[v1, v2] w fun e w' => e = .returned (.bool true) ∧ Below w.heap.size w w' := by
  go_enter Tryz.func44, Tryz.ntmps44
  go_wp2_with fail
  refine (samebatches_ok h1 h2 hl hs).mono ?_
  rintro e w1 ⟨rfl, hb⟩
  have HB := Lib.hid hb
  clear hb
  go_wp2_with fail
  go_ret
  exact ⟨rfl, HB.out⟩
end
end Go.Proofs.YtepmblomgmghcaaGreatDoor.Sg

/-! Hs -/
namespace Go.Proofs.YtepmblomgmghcaaGreatDoor.Sg
open Go.RowKit Er Go.Maps

theorem long_big (a : Int) (m : Int) (h0 : 0 < m) (h1 : m ≤ 2000000000000) (w : World) :
    Calls Tryz.prog 14 #[.int .i64 a, .int .i64 m] w fun e w' => e = .returned (.int .i64 (a % m)) ∧ w = w' := by
  obtain ⟨b1, b2, b3, b4⟩ := tmod_emod a m h0
  have hm : ¬ m = 0 := by omega
  have B3 := Lib.hid b3
  have B4 := Lib.hid b4
  clear b3 b4
  by_cases h : Int.tmod a m < 0
  · go_enter Tryz.func14, Tryz.ntmps14
    go_wp2_with fail
    go_ret
    exact ⟨congrArg (fun z => Ending.returned (.int .i64 z)) (B3.out h), rfl⟩
  · go_enter Tryz.func14, Tryz.ntmps14
    go_wp2_with fail
    go_ret
    exact ⟨congrArg (fun z => Ending.returned (.int .i64 z)) (B4.out h), rfl⟩

section
variable {S : List Nat} {E : Nat → Addr} {B : Nat} {P : Pm} {h : Nat} {H : Hl} {D : Dk} {A Ad F : Mm} {w : World} {b0 : Int} {l : List Bt}

set_option maxRecDepth 100000 in
set_option maxHeartbeats 400000 in
theorem hbegin_again (hE : Pers P (fun w => Errs S w E B)) (h12 : 12 ∈ S) (hM : HlM h H A) (hne : H.L ≠ []) (hn : H.L.length ≤ 1000000) (base : Int) (hH : Hp w P (A ++ F)) :
    Calls Tryz.prog 46 #[ptr h, .int .i64 base] w fun e w' => e = .returned (.iface 306 (.pointer (some (E 12)))) ∧ Hp w' P (A ++ F) := by
  obtain ⟨a, c, hc, hat⟩ := hM.at_
  obtain ⟨-, -, -, c3, -, -, -⟩ := hat w P _ hH
  obtain ⟨n, hn2⟩ : ∃ n, H.L.length = n := ⟨_, rfl⟩
  have hpos : 0 < n := by rw [← hn2]; exact List.length_pos_iff.2 hne
  rw [hn2] at c3 hc hn
  have j1 : (0 : Int) < (n : Int) := by omega
  have ce : w.cell? ⟨7, 0, none⟩ = some (.iface 306 (.pointer (some (E 12)))) := (hH.use hE).at_ 12 h12
  have HH := Lib.hid hH
  clear hH hat hM hne hn2
  go_enter Tryz.func46, Tryz.ntmps46
  go_wp2_with fail
  go_ret
  exact ⟨rfl, HH.out⟩

set_option maxRecDepth 100000 in
set_option maxHeartbeats 400000 in
theorem hflush_on (C : Ctx S E B P) (hM : HlM h H A) (hO : HotOn D H b0 l) (hD : DkM P H.d D Ad) {L0 : List (Nat × Sg)} {s : Nat} {G : Sg} (hL : H.L = L0 ++ [(s, G)]) (hH : Hp w P (A ++ (Ad ++ F))) :
    Calls Tryz.prog 47 #[ptr h] w fun e w' => e = .returned .nilIface ∧ ∃ A' Ad' D', HlM h { H with L := L0 ++ [(s, G.syn)] } A' ∧ DkM P H.d D' Ad' ∧ HotOn D' { H with L := L0 ++ [(s, G.syn)] } b0 l ∧ Hp w' P (A' ++ (Ad' ++ F)) := by
  obtain ⟨a, c, hc, hat⟩ := hM.at_
  obtain ⟨-, -, -, c3, -, -, -⟩ := hat w P _ hH
  obtain ⟨n, hn2⟩ : ∃ n, H.L.length = n := ⟨_, rfl⟩
  have hpos : 0 < n := by rw [← hn2, hL]; simp
  rw [hn2] at c3 hc
  have hnz : ¬ (n : Int) = 0 := by omega
  obtain ⟨hGO, hGd, -, -⟩ := hO.sg (s, G) (by rw [hL]; simp)
  dsimp only at hGO hGd
  obtain ⟨A1, R, hG, hp, hback⟩ := hM.focus (l1 := L0) (l2 := []) hL
  have HH := Lib.hid hH
  have HM := Lib.hid hM
  have HL := Lib.hid hL
  have HO := Lib.hid hO
  have HP := Lib.hid hp
  have HBK := Lib.hid hback
  have HGO := Lib.hid hGO
  have HGD := Lib.hid hGd
  have HD := Lib.hid hD
  clear hH hat hM hn2 hL hO hp hback hGO hGd hD
  go_enter Tryz.func47, Tryz.ntmps47
  go_wp2_with fail
  refine (hlast_ok HM.out HL.out (by have := HO.out.small.2; rw [HL.out] at this; simp at this; omega) HH.out).mono ?_
  rintro e w1 ⟨rfl, hH1⟩
  have H1 := Lib.hid (show Hp w1 P (A1 ++ (Ad ++ (R ++ F))) from by
    have h1 := hH1.perm (HP.out (Ad ++ F))
    have h2 := perm_mid R Ad F
    exact h1.perm (List.Perm.append_left A1 h2))
  clear hH1
  go_wp2_with fail
  refine (ssync_on C hG HGO.out (by rw [HGD.out]; exact HD.out) H1.out).mono ?_
  rintro e w2 ⟨rfl, A2, Ad2, D2, hG2, hD2, hO2, hsm, hu, hlk, hH2⟩
  obtain ⟨A', hM', hp'⟩ := HBK.out G.syn A2 hG2
  have hO3 := HO.out.sync HL.out hO2 hsm hu hlk
  have H2 := Lib.hid (show Hp w2 P (A' ++ (Ad2 ++ F)) from by
    have h2 := perm_mid Ad2 R F
    exact (hH2.perm (List.Perm.append_left A2 h2)).perm (hp' (Ad2 ++ F)))
  have HM2 := Lib.hid hM'
  have HO3 := Lib.hid hO3
  have HD2 := Lib.hid (show DkM P H.d D2 Ad2 from by rw [← HGD.out]; exact hD2)
  clear hH2 hM' hO3 hD2 hO2 hG2 hp' hsm hu hlk
  go_wp2_with fail
  go_ret
  exact ⟨rfl, A', Ad2, D2, HM2.out, HD2.out, HO3.out, H2.out⟩

set_option maxRecDepth 100000 in
set_option maxHeartbeats 1000000 in
/-- How far a log of one segment is synced. -/
theorem hsynced_one (hM : HlM h H A) (hW : HlW H) {s : Nat} {G : Sg} (hL : H.L = [(s, G)]) (hH : Hp w P (A ++ F)) :
    Calls Tryz.prog 48 #[ptr h] w fun e w' => e = .returned (.int .i64 (synF G.kept G.base G.l)) ∧ Hp w' P (A ++ F) := by
  obtain ⟨a, c, hc, hat⟩ := hM.at_
  have hlen : H.L.length = 1 := by rw [hL]; rfl
  have hst : H.start = G.base := by simp [Hl.start, hL]
  have hgw := hW.g (s, G) (by rw [hL]; simp)
  dsimp only at hgw
  obtain ⟨A1, R, hG, hp, -⟩ := hM.focus (l1 := []) (l2 := []) hL
  have hx : ∀ hk : 0 < H.L.length, H.L[0] = (s, G) := fun hk => by simp [hL]
  have HH := Lib.hid hH
  have HM := Lib.hid hM
  have HW := Lib.hid hW
  have HAT := Lib.hid hat
  have HST := Lib.hid hst
  have HP := Lib.hid hp
  have HX := Lib.hid hx
  have HLE := Lib.hid hlen
  clear hH hat hM hlen hL hW hst hp hx
  obtain ⟨b, hb⟩ : ∃ b, (G.base : Int) = b := ⟨_, rfl⟩
  have HB := Lib.hid hb
  go_enter Tryz.func48, Tryz.ntmps48
  go_wp2_with fail
  refine (hstart_ok HM.out HW.out HH.out).mono ?_
  rintro e w1 ⟨rfl, hH1⟩
  rw [HST.out, hb]
  obtain ⟨-, -, -, c3, -, -, hcell⟩ := HAT.out w1 P _ hH1
  obtain ⟨g, rfl, cg⟩ := hcell 0 (by rw [HLE.out]; decide)
  rw [HX.out] at cg
  rw [HLE.out] at c3
  have H1 := Lib.hid (hH1.perm (HP.out F))
  have CG := Lib.hid cg
  clear hH1 hcell hb cg
  go_wp2_with fail
  go_loopg [3, 13] 1 (fun m vt vi wr => (m = 1 ∧ vi = .int .i64 0 ∧ vt = .int .i64 b ∧ wr = w1) ∨ (m = 0 ∧ vi = .int .i64 1 ∧ vt = .int .i64 (synF G.kept G.base G.l) ∧ Hp wr P (A1 ++ (R ++ F))))
  case atStart => exact .inl ⟨rfl, rfl, rfl, rfl⟩
  case round =>
    rcases hrel with ⟨rfl, rfl, rfl, rfl⟩ | ⟨rfl, rfl, rfl, hHr⟩
    · have cg := CG.out
      go_wp2_with fail
      refine (sbase_any hG H1.out).mono ?_
      rintro e w2 ⟨rfl, rfl⟩
      rw [HB.out]
      go_wp2_with fail
      refine (ssynced_ok hG hgw H1.out).mono ?_
      rintro e w3 ⟨rfl, hH3⟩
      have H3 := Lib.hid hH3
      clear hH3
      go_wp2_with fail
      go_roundg 0
      case measure => omega
      case rel => exact .inr ⟨rfl, rfl, rfl, H3.out⟩
    · have HR := Lib.hid hHr
      clear hHr
      go_wp2_with fail
      go_ret
      exact ⟨rfl, HR.out.perm (HP.out F).symm⟩

set_option maxRecDepth 100000 in
set_option maxHeartbeats 1000000 in
theorem hopen_bad (d : Nat) (hE : Pers P (fun w => Errs S w E B)) (h4 : 4 ∈ S) (seg every : Int) (hb : seg < 1 ∨ 1048576 < seg ∨ every < 1 ∨ 1048576 < every) (hH : Hp w P F) :
    Calls Tryz.prog 45 #[ptr d, .agg #[.int .i64 seg, .int .i64 every]] w fun e w' => e = .returned (.tuple #[.pointer none, .iface 306 (.pointer (some (E 4)))]) ∧ Hp w' P F := by
  have h4' := (((hH.alloc (.cells #[ptr d] 25)).alloc (.cells #[.int .i64 seg, .int .i64 every] 78)).alloc (.cells #[.pointer none] 53)).alloc (.cells #[.nilIface] 27)
  simp only [World.alloc_size'] at h4'
  obtain ⟨w4, hw4⟩ : ∃ w4, (((w.alloc (.cells #[ptr d] 25)).alloc (.cells #[.int .i64 seg, .int .i64 every] 78)).alloc (.cells #[.pointer none] 53)).alloc (.cells #[.nilIface] 27) = w4 := ⟨_, rfl⟩
  obtain ⟨bx, hbx⟩ : ∃ bx, bx = w.heap.size := ⟨_, rfl⟩
  rw [hw4, ← hbx] at h4'
  have z5 := (@Hp.cell _ _ _ h4' (bx + 1 + 1 + 1) #[.nilIface] 27 (0, 0) (by simp)) (i := 0) rfl
  have z4 := (@Hp.cell _ _ _ h4' (bx + 1 + 1) #[.pointer none] 53 (0, 0) (by simp)) (i := 0) rfl
  have z1 := (@Hp.cell _ _ _ h4' (bx + 1) #[.int .i64 seg, .int .i64 every] 78 (0, 0) (by simp)) (i := 0) rfl
  have z2 := (@Hp.cell _ _ _ h4' (bx + 1) #[.int .i64 seg, .int .i64 every] 78 (0, 0) (by simp)) (i := 1) rfl
  have f5 : w4.frozen? ⟨bx + 1 + 1 + 1, 0, none⟩ = false := h4'.frozen (b := bx + 1 + 1 + 1) (c := #[.nilIface]) (t := 27) (by simp) 0
  have f4 : w4.frozen? ⟨bx + 1 + 1, 0, none⟩ = false := h4'.frozen (b := bx + 1 + 1) (c := #[.pointer none]) (t := 53) (by simp) 0
  have ce : w4.cell? ⟨0, 0, none⟩ = some (.iface 306 (.pointer (some (E 4)))) := (h4'.use hE).at_ 4 h4
  have hfin : ∀ w5, Hp w5 P ((bx + 1 + 1 + 1, .cells #[.nilIface] 27 (0, 0)) :: (bx + 1 + 1, .cells #[.pointer none] 53 (0, 0)) :: (bx + 1, .cells #[.int .i64 seg, .int .i64 every] 78 (0, 0)) :: (bx, .cells #[ptr d] 25 (0, 0)) :: F) →
      ((w5.setCell ⟨bx + 1 + 1, 0, none⟩ (.pointer none)).setCell ⟨bx + 1 + 1 + 1, 0, none⟩ (.iface 306 (.pointer (some (E 4))))).cell? ⟨bx + 1 + 1, 0, none⟩ = some (.pointer none) ∧
      ((w5.setCell ⟨bx + 1 + 1, 0, none⟩ (.pointer none)).setCell ⟨bx + 1 + 1 + 1, 0, none⟩ (.iface 306 (.pointer (some (E 4))))).cell? ⟨bx + 1 + 1 + 1, 0, none⟩ = some (.iface 306 (.pointer (some (E 4)))) ∧
      Hp ((w5.setCell ⟨bx + 1 + 1, 0, none⟩ (.pointer none)).setCell ⟨bx + 1 + 1 + 1, 0, none⟩ (.iface 306 (.pointer (some (E 4))))) P F := by
    intro w5 h1
    have h2 := (Hp.mid (A := [(bx + 1 + 1 + 1, .cells #[.nilIface] 27 (0, 0))]) (B := [(bx + 1 + 1, .cells #[.pointer none] 53 (0, 0))]) h1).set 0 (.pointer none)
    have h3 := (Hp.mid (A := [_]) (B := [(bx + 1 + 1 + 1, .cells #[.nilIface] 27 (0, 0))]) h2).set 0 (.iface 306 (.pointer (some (E 4))))
    exact ⟨(@Hp.cell _ _ _ h3 (bx + 1 + 1) #[.pointer none] 53 (0, 0) (by simp)) (i := 0) rfl, (@Hp.cell _ _ _ h3 (bx + 1 + 1 + 1) #[.iface 306 (.pointer (some (E 4)))] 27 (0, 0) (by simp)) (i := 0) rfl, h3.drop (M := [_, _, _, _])⟩
  have HFIN := Lib.hid hfin
  have H4 := Lib.hid h4'
  have HW4 := Lib.hid hw4
  have HBX := Lib.hid hbx
  have HE := Lib.hid hE
  clear hH h4' hw4 hbx hfin hE
  have hcase : seg < 1 ∨ (¬ seg < 1 ∧ 1048576 < seg) ∨ (¬ seg < 1 ∧ ¬ 1048576 < seg ∧ (every < 1 ∨ 1048576 < every)) := by omega
  rcases hcase with h1 | ⟨h1, h2⟩ | ⟨h1, h2, h3⟩
  · refine (callsIn_wide (n := 6)).1 ?_
    refine callsIn_of_wp_marks Tryz.func45 rfl trivial ?_ rfl
    simp only [Tryz.ntmps45, List.size_toArray, List.length_cons, List.length_nil, Nat.reduceAdd, Nat.reduceSub, Array.replicate_succ, Array.replicate_zero, List.push_toArray, List.append_toArray, List.nil_append, List.cons_append]
    refine wpIn_wide.2 ?_
    go_wp2_with fail
    rw [HW4.out, ← HBX.out]
    go_wp2_with fail
    go_region
    go_wp2_with fail
    obtain ⟨q1, q2, q3⟩ := HFIN.out w4 H4.out
    exact ⟨.tuple #[.pointer none, .iface 306 (.pointer (some (E 4)))], by simp [results, Tryz.results45, go_sem, q1, q2], rfl, q3.drew⟩
  · refine (callsIn_wide (n := 6)).1 ?_
    refine callsIn_of_wp_marks Tryz.func45 rfl trivial ?_ rfl
    simp only [Tryz.ntmps45, List.size_toArray, List.length_cons, List.length_nil, Nat.reduceAdd, Nat.reduceSub, Array.replicate_succ, Array.replicate_zero, List.push_toArray, List.append_toArray, List.nil_append, List.cons_append]
    refine wpIn_wide.2 ?_
    go_wp2_with fail
    rw [HW4.out, ← HBX.out]
    go_wp2_with fail
    go_region
    go_wp2_with fail
    obtain ⟨q1, q2, q3⟩ := HFIN.out w4 H4.out
    exact ⟨.tuple #[.pointer none, .iface 306 (.pointer (some (E 4)))], by simp [results, Tryz.results45, go_sem, q1, q2], rfl, q3.drew⟩
  · refine (callsIn_wide (n := 6)).1 ?_
    refine callsIn_of_wp_marks Tryz.func45 rfl trivial ?_ rfl
    simp only [Tryz.ntmps45, List.size_toArray, List.length_cons, List.length_nil, Nat.reduceAdd, Nat.reduceSub, Array.replicate_succ, Array.replicate_zero, List.push_toArray, List.append_toArray, List.nil_append, List.cons_append]
    refine wpIn_wide.2 ?_
    go_wp2_with fail
    rw [HW4.out, ← HBX.out]
    go_wp2_with fail
    refine (ixnew_bad (H4.out.use HE.out) h4 every h3).mono ?_
    rintro e w5 ⟨rfl, q, rfl⟩
    have H5 := Lib.hid (H4.out.drewN q)
    have z5' := (@Hp.cell _ _ _ H5.out (bx + 1 + 1 + 1) #[.nilIface] 27 (0, 0) (by simp)) (i := 0) rfl
    have z4' := (@Hp.cell _ _ _ H5.out (bx + 1 + 1) #[.pointer none] 53 (0, 0) (by simp)) (i := 0) rfl
    have f5' : (w4.drewN q).frozen? ⟨bx + 1 + 1 + 1, 0, none⟩ = false := H5.out.frozen (b := bx + 1 + 1 + 1) (c := #[.nilIface]) (t := 27) (by simp) 0
    have f4' : (w4.drewN q).frozen? ⟨bx + 1 + 1, 0, none⟩ = false := H5.out.frozen (b := bx + 1 + 1) (c := #[.pointer none]) (t := 53) (by simp) 0
    go_wp2_with fail
    obtain ⟨q1, q2, q3⟩ := HFIN.out _ H5.out
    exact ⟨.tuple #[.pointer none, .iface 306 (.pointer (some (E 4)))], by simp [results, Tryz.results45, go_sem, q1, q2], rfl, q3⟩
end
end Go.Proofs.YtepmblomgmghcaaGreatDoor.Sg

/-! Jd -/
namespace Go.Proofs.YtepmblomgmghcaaGreatDoor.Sg
open Go.RowKit Er Go.Maps

/-- A log without batches has one segment. -/
theorem HotOn.lone {D : Dk} {H : Hl} {q seg : Nat} (hO : HotOn D H q []) (hr : H.L.map (·.2.l) = stL (rollF seg [])) : ∃ s G, H.L = [(s, G)] ∧ G.l = [] ∧ G.base = q := by
  have hr' : H.L.map (·.2.l) = [[]] := hr
  obtain ⟨p, hp⟩ : ∃ p, H.L = [p] := by
    have := congrArg List.length hr'
    rw [List.length_map] at this
    exact List.length_eq_one_iff.1 this
  rw [hp] at hr'
  have hk := hO.lk
  rw [hp] at hk
  have hb : (p.2.base : Int) = q := hk.1
  exact ⟨p.1, p.2, hp, by simpa using hr', by omega⟩

set_option maxRecDepth 100000 in
set_option maxHeartbeats 4000000 in
theorem hotbegins_all (base seg every : Int) (W : World) (hS : ∀ i, i < 10 ∨ i = 14 → i ∈ List.range 19) (hE : Errs (List.range 19) W (errAt W) W.heap.size)
    (hT : Lib.TabIs Tryz.prog W "internal/strconv.uint64pow10" .u64 Lib.pow10Tab) :
    Calls Tryz.prog 8 #[.int .i64 base, .int .i64 seg, .int .i64 every] W fun e W' => e = .returned (.bool true) ∧ Below W.heap.size W W' := by
  have C := ctx_start hS hE hT
  have H0 : Hid (Hp W (Pm.start W) []) := Hp.start W
  clear hE hT
  go_enter Tryz.func8, Tryz.ntmps8
  go_wp2_with fail
  refine (first10_ok C H0.out).mono ?_
  rintro e w1 ⟨rfl, P1, hs1, hH1⟩
  have H1 := Lib.hid hH1
  have HS1 := Lib.hid hs1
  clear hH1 hs1
  go_wp2_with fail
  refine (made10_ok (C.sub HS1.out) 50 (by decide) (by decide) 0 (by decide) (.slice none 0 0) [] (.inl ⟨rfl, rfl⟩) [] rfl trivial (fun x hx => by cases hx) (by simp [sizes]) H1.out).mono ?_
  rintro e w2 ⟨d, h, P2, A, Ad, D, H, rfl, hs2, hM, hD, hO, hd, -, -, -, -, -, -, hne, hH2⟩
  have H2 := Lib.hid hH2
  have HS2 := Lib.hid (HS1.out.trans hs2)
  have HM := Lib.hid hM
  have HD := Lib.hid hD
  have HO := Lib.hid hO
  have HDD := Lib.hid hd
  have HNE := Lib.hid hne
  clear hH2 hs2 hM hD hO hd hne
  go_wp2_with fail
  by_cases hbad : seg < 1 ∨ 1048576 < seg ∨ every < 1 ∨ 1048576 < every
  · refine (hopen_bad d (C.sub HS2.out).errs (by decide) seg every hbad H2.out).mono ?_
    rintro e w3 ⟨rfl, hH3⟩
    have hE3 := ((C.sub HS2.out).errs) _ hH3.agr
    have H3 := Lib.hid hH3
    have HE3 := Lib.hid hE3
    clear hH3 hE3
    have hcase : seg < 1 ∨ (¬ seg < 1 ∧ 1048576 < seg) ∨ (¬ seg < 1 ∧ ¬ 1048576 < seg ∧ every < 1) ∨ (¬ seg < 1 ∧ ¬ 1048576 < seg ∧ ¬ every < 1 ∧ 1048576 < every) := by omega
    clear hbad
    rcases hcase with c1 | ⟨c1, c2⟩ | ⟨c1, c2, c3⟩ | ⟨c1, c2, c3, c4⟩
    · go_wp2_with fail
      rw [← ev_some (errAt W) 4]
      refine (is_any HE3.out (101 + 4) (.inr (by omega)) 105).mono ?_
      rintro e w4 ⟨rfl, hb4⟩
      have HB4 := Lib.hid ((H3.out.below hb4 (Nat.le_refl _)).to_below HS2.out)
      clear hb4
      go_wp2_with fail
      go_ret
      exact ⟨rfl, HB4.out⟩
    · go_wp2_with fail
      rw [← ev_some (errAt W) 4]
      refine (is_any HE3.out (101 + 4) (.inr (by omega)) 105).mono ?_
      rintro e w4 ⟨rfl, hb4⟩
      have HB4 := Lib.hid ((H3.out.below hb4 (Nat.le_refl _)).to_below HS2.out)
      clear hb4
      go_wp2_with fail
      go_ret
      exact ⟨rfl, HB4.out⟩
    · go_wp2_with fail
      rw [← ev_some (errAt W) 4]
      refine (is_any HE3.out (101 + 4) (.inr (by omega)) 105).mono ?_
      rintro e w4 ⟨rfl, hb4⟩
      have HB4 := Lib.hid ((H3.out.below hb4 (Nat.le_refl _)).to_below HS2.out)
      clear hb4
      go_wp2_with fail
      go_ret
      exact ⟨rfl, HB4.out⟩
    · go_wp2_with fail
      rw [← ev_some (errAt W) 4]
      refine (is_any HE3.out (101 + 4) (.inr (by omega)) 105).mono ?_
      rintro e w4 ⟨rfl, hb4⟩
      have HB4 := Lib.hid ((H3.out.below hb4 (Nat.le_refl _)).to_below HS2.out)
      clear hb4
      go_wp2_with fail
      go_ret
      exact ⟨rfl, HB4.out⟩
  · obtain ⟨sq, rfl⟩ : ∃ sq : Nat, seg = (sq : Int) := ⟨seg.toNat, by omega⟩
    obtain ⟨eq_, rfl⟩ : ∃ eq_ : Nat, every = (eq_ : Int) := ⟨every.toNat, by omega⟩
    have c1 : ¬ (sq : Int) < 1 := by omega
    have c2 : ¬ (1048576 : Int) < (sq : Int) := by omega
    have c3 : ¬ (eq_ : Int) < 1 := by omega
    have c4 : ¬ (1048576 : Int) < (eq_ : Int) := by omega
    clear hbad
    have hop := hopen_on (C.sub HS2.out) (by have := HD.out; rwa [HDD.out] at this) (by have := HO.out.reevery eq_ sq (by omega) (by omega); rwa [HDD.out] at this) (by omega) (by omega) (H2.out.perm (perm_mid A Ad []))
    refine hop.mono ?_
    rintro e w3 ⟨x, P3, Ax, Ad3, D3, Ln, rfl, hs3, hMx, hD3, hOx, hmap, -, -, -, hH3⟩
    have hln : Ln.length = H.L.length := by have := congrArg List.length hmap; simpa using this
    have hlne : Ln ≠ [] := fun h0 => by
      rw [h0] at hln
      exact HNE.out (List.eq_nil_of_length_eq_zero hln.symm)
    have hlsm := hOx.small.2
    have HS3 := Lib.hid (HS2.out.trans hs3)
    have HMx := Lib.hid hMx
    have HLNE := Lib.hid hlne
    have H3 := Lib.hid hH3
    have HLS := Lib.hid hlsm
    clear hop hs3 hMx hD3 hOx hmap hH3 hln hlne hlsm
    go_wp2_with fail
    refine (hbegin_again (C.sub HS3.out).errs (by decide) HMx.out HLNE.out (Nat.le_trans HLS.out (by decide)) 5 H3.out).mono ?_
    rintro e w4 ⟨rfl, hH4⟩
    have hE4 := ((C.sub HS3.out).errs) _ hH4.agr
    have H4 := Lib.hid hH4
    have HE4 := Lib.hid hE4
    clear hH4 hE4
    go_wp2_with fail
    rw [← ev_some (errAt W) 12]
    refine (is_any HE4.out (101 + 12) (.inr (by omega)) 113).mono ?_
    rintro e w5 ⟨rfl, hb5⟩
    have H5 := Lib.hid ((H4.out.below hb5 (Nat.le_refl _)).drop.drop.drop)
    clear hb5
    obtain ⟨q, hq⟩ : ∃ q : Nat, base % (1099511627776 : Int) = (q : Int) := ⟨(base % 1099511627776).toNat, by omega⟩
    have hq2 : q ≤ 1099511627776 := by omega
    have HQ := Lib.hid hq
    clear hq
    go_wp2_with fail
    refine (long_big base 1099511627776 (by decide) (by decide) _).mono ?_
    rintro e w' ⟨rfl, rfl⟩
    rw [HQ.out]
    go_wp2_with fail
    refine (made10_ok (C.sub HS3.out) 50 (by decide) (by decide) q hq2 (.slice none 0 0) [] (.inl ⟨rfl, rfl⟩) [] rfl trivial (fun x hx => by cases hx) (by simp [sizes]) H5.out).mono ?_
    rintro e w6 ⟨d6, h6, P6, A6, Ad6, D6, H6', rfl, hs6, hM6, hD6, hO6, hd6, -, -, hroll, -, -, -, hne6, hH6⟩
    obtain ⟨s, G, hL, hGl, hGb⟩ := hO6.lone hroll
    have hst := hO6.hstart hne6
    have hen : H6'.end_ = (q : Int) := hO6.hend hne6
    have hlen : (H6'.L.map fun p => triG p.2).length = 1 := by rw [hL]; rfl
    have H6 := Lib.hid hH6
    have HS6 := Lib.hid (HS3.out.trans hs6)
    have HM6 := Lib.hid hM6
    have HD6 := Lib.hid hD6
    have HO6 := Lib.hid hO6
    have HL := Lib.hid hL
    have HGL := Lib.hid hGl
    have HGB := Lib.hid hGb
    have HST := Lib.hid hst
    have HEN := Lib.hid hen
    have HLEN := Lib.hid hlen
    clear hH6 hs6 hM6 hD6 hO6 hd6 hroll hne6 hL hGl hGb hst hen hlen
    go_wp2_with fail
    refine (hstart_ok HM6.out HO6.out.W H6.out).mono ?_
    rintro e w7 ⟨rfl, hH7⟩
    rw [HST.out]
    have H7 := Lib.hid hH7
    clear hH7
    go_wp2_with fail
    refine (long_big base 1099511627776 (by decide) (by decide) _).mono ?_
    rintro e w' ⟨rfl, rfl⟩
    rw [HQ.out]
    go_wp2_with fail
    refine (hend_ok HM6.out HO6.out.W H7.out).mono ?_
    rintro e w8 ⟨rfl, hH8⟩
    rw [HEN.out]
    have H8 := Lib.hid hH8
    clear hH8
    go_wp2_with fail
    refine (hstart_ok HM6.out HO6.out.W H8.out).mono ?_
    rintro e w9 ⟨rfl, hH9⟩
    rw [HST.out]
    have H9 := Lib.hid hH9
    clear hH9
    go_wp2_with fail
    refine (hsegs_ok HM6.out HO6.out.W H9.out).mono ?_
    rintro e w10 ⟨v10, At, rfl, ht, hH10⟩
    obtain ⟨ta, tc, rfl⟩ := ht.shape
    rw [HLEN.out]
    have H10 := Lib.hid hH10.drop
    clear ht hH10
    go_wp2_with fail
    refine (hstart_ok HM6.out HO6.out.W H10.out).mono ?_
    rintro e w11 ⟨rfl, hH11⟩
    rw [HST.out]
    have H11 := Lib.hid hH11
    clear hH11
    go_wp2_with fail
    refine (hread_out (C.sub HS6.out) HM6.out HO6.out.W (q : Int) 10 (fun p hp => .inr (by
      rw [HL.out, List.mem_singleton] at hp
      subst hp
      show G.end_ ≤ _
      rw [end_eq, HGL.out, HGB.out]
      exact Int.le_refl _)) H11.out).mono ?_
    rintro e w12 ⟨rfl, hH12⟩
    have hE12 := ((C.sub HS6.out).errs) _ hH12.agr
    have H12 := Lib.hid hH12
    have HE12 := Lib.hid hE12
    clear hH12 hE12
    go_wp2_with fail
    rw [← ev_some (errAt W) 14]
    refine (is_any HE12.out (101 + 14) (.inr (by omega)) 115).mono ?_
    rintro e w13 ⟨rfl, hb13⟩
    have H13 := Lib.hid (H12.out.below hb13 (Nat.le_refl _))
    clear hb13
    go_wp2_with fail
    have hfl : (H6'.L.map (·.2.l)).flatten = [] := HO6.out.fl
    have HFL := Lib.hid hfl
    clear hfl
    refine (hpairs_ok HM6.out HO6.out.W (by rw [HFL.out]; decide) H13.out).mono ?_
    rintro e w14 ⟨v14, Ap, rfl, hp14, hH14⟩
    rw [HFL.out] at hp14
    have hp15 : RowM 86 2 v14 0 [] Ap := hp14
    obtain ⟨pa, pc, rfl⟩ := hp15.shape
    have H14 := Lib.hid hH14.drop
    clear hp14 hp15 hH14
    go_wp2_with fail
    refine (hflush_on (C.sub HS6.out) HM6.out HO6.out HD6.out (L0 := []) HL.out H14.out).mono ?_
    rintro e w15 ⟨rfl, A15, Ad15, D15, hM15, hD15, hO15, hH15⟩
    have H15 := Lib.hid hH15
    have HM15 := Lib.hid hM15
    have HO15 := Lib.hid hO15
    clear hH15 hM15 hO15 hD15
    go_wp2_with fail
    refine (hsynced_one HM15.out HO15.out.W (s := s) (G := G.syn) rfl H15.out).mono ?_
    rintro e w16 ⟨rfl, hH16⟩
    have hsy : synF G.syn.kept G.syn.base G.syn.l = (q : Int) := by
      show synF _ (G.base : Int) G.l = _
      rw [HGL.out, HGB.out]; rfl
    rw [hsy]
    have H16 := Lib.hid hH16
    clear hH16 hsy
    go_wp2_with fail
    refine (hend_ok HM15.out HO15.out.W H16.out).mono ?_
    rintro e w17 ⟨rfl, hH17⟩
    have hen2 : ({ H6' with L := [] ++ [(s, G.syn)] } : Hl).end_ = (q : Int) := HO15.out.hend (by simp)
    rw [hen2]
    have HB17 := Lib.hid (hH17.to_below HS6.out)
    clear hH17 hen2
    go_wp2_with fail
    go_ret
    exact ⟨rfl, HB17.out⟩
end Go.Proofs.YtepmblomgmghcaaGreatDoor.Sg

/-! Cy -/
namespace Go.Proofs.YtepmblomgmghcaaGreatDoor.Sg
open Go.RowKit Er

def l12 : List Nat := [0, 1, 2, 3, 4, 5, 6, 7, 8, 9, 12, 14]
theorem l12_all : ∀ i, i < 10 ∨ i = 14 → i ∈ l12 := by
  intro i hi
  rcases hi with hi | rfl
  · have : ∀ j : Fin 10, j.val ∈ l12 := by decide
    exact this ⟨i, hi⟩
  · decide
theorem l19_all2 : ∀ i, i < 10 ∨ i = 14 → i ∈ List.range 19 := by intro i hi; rw [List.mem_range]; omega

theorem tab_of2 {rest : List (String × DataW Unit)} {W : World} (h : laidMet Tryz.prog (("math/bits.deBruijn32tab", Rows.laid_math_bits_deBruijn32tab) :: ("math/bits.deBruijn64tab", Rows.laid_math_bits_deBruijn64tab) :: ("internal/strconv.uint64pow10", Rows.laid_internal_strconv_uint64pow10) :: rest) W) :
    Lib.TabIs Tryz.prog W "internal/strconv.uint64pow10" .u64 Lib.pow10Tab ∧ laidMet Tryz.prog rest W := by
  have h2 := laidMet.tail (laidMet.tail h)
  refine ⟨?_, laidMet.tail h2⟩
  exact Lib.tabIs_of_head (zs := Lib.pow10Tab) (k := .u64) (g := 19) (t := 299) (e := 157) (n := 20) (by kernel_rfl) (by kernel_rfl) (by kernel_rfl) (by kernel_rfl) (by kernel_rfl) (by kernel_rfl) h2
theorem hlaid12 {W : World} (h : laidMet Tryz.prog Rows.hotSizesRow.laid W) (hsz : gmax ≤ W.heap.size) : Lib.TabIs Tryz.prog W "internal/strconv.uint64pow10" .u64 Lib.pow10Tab ∧ Errs l12 W (errAt W) W.heap.size := by
  obtain ⟨h1, h2⟩ := tab_of2 h
  exact ⟨h1, errs_of_laid l12 (by decide) h2 hsz⟩
theorem hlaid19 {W : World} (h : laidMet Tryz.prog Rows.hotReadsRow.laid W) (hsz : gmax ≤ W.heap.size) : Lib.TabIs Tryz.prog W "internal/strconv.uint64pow10" .u64 Lib.pow10Tab ∧ Errs (List.range 19) W (errAt W) W.heap.size := by
  obtain ⟨h1, h2⟩ := tab_of2 h
  exact ⟨h1, errs_of_laid (List.range 19) (by decide) h2 hsz⟩

end Go.Proofs.YtepmblomgmghcaaGreatDoor.Sg

/-! HotBeginsRow -/
namespace Go.Proofs.YtepmblomgmghcaaGreatDoor.hotBegins
open Go.ChangeShapes Go.WideShapes Go.ChangeAt Go.RowKit
open Go.Proofs.YtepmblomgmghcaaGreatDoor.Sg
set_option linter.unusedVariables false

theorem own : ownKnob Tryz.prog.godebug = none := by kernel_rfl
theorem laidOut : laidOutB Tryz.prog = true := by kernel_rfl

theorem door_met (os : Os) (args : Array Value) : laidMetH Tryz.prog Rows.hotBeginsRow.laid ((World.doorLaid Tryz.prog 400 os).forCall (fun _ _ => 0) ⟨#[], args, []⟩).memory :=
  laidMetH_of_parts3 (fuel := 8) (laidMet_of_run' 8 (by kernel_rfl) (by kernel_rfl)) (by kernel_rfl) (by kernel_rfl)

theorem reads (os : Os) {H : Type} (enc : TypeId × Value → H) : ∃ places, DataW.whole enc Tryz.prog ((World.doorLaid Tryz.prog 400 os).forCall (fun _ _ => 0) ⟨#[], #[.int .i64 0, .int .i64 0, .int .i64 0], []⟩).memory Tryz.f8.params.toList Rows.hotBeginsSpec.vars false (#[.int .i64 0, .int .i64 0, .int .i64 0] : Array Value).toList 8 = some ([.lit (.int .i64 0), .lit (.int .i64 0), .lit (.int .i64 0)], [], places) :=
  ⟨[], by kernel_rfl⟩

set_option maxRecDepth 100000 in
theorem contract (H : Type) (enc : TypeId × Value → H) (W : World) (base : Nat) (args : Array Value) (ds gs : List (DataW H)) (before : List MemPlace)
    (hval0 : ∀ (j : Nat) t v, Tryz.f8.params[j]? = some t → args[j]? = some v → Value.okWide Tryz.prog W .any base t v)
    (hW : DataW.Whole enc Tryz.prog Tryz.f8.params.toList Rows.hotBeginsSpec.vars false W args.toList ds gs before) (hL : laidMetH Tryz.prog Rows.hotBeginsRow.laid W) (hsh : W.ShapedOpen Tryz.prog) :
    Calls Tryz.prog 8 args W fun e W' => ∃ v, e = .returned v ∧ Rows.hotBeginsSpec.post enc Tryz.prog Tryz.f8 false true false false W args v W' := by
  have hval : ∀ (j : Nat) t v, Tryz.f8.params[j]? = some t → args[j]? = some v → Value.okWide Tryz.prog W .any base t v := hval0
  have hW' := hW
  obtain ⟨p, q, hA0, hV, rfl, hfz, hnd⟩ := hW
  have hA : DataW.TrodAll enc Tryz.prog W 0 (fun _ => true) true Tryz.f8.params.toList args.toList ds p := hA0
  rw [Tryz.params8] at hA hval
  obtain ⟨v0, vs0, d0, ds0, p0, q0, hargs, rfl, rfl, h0, r0⟩ := trodAll_cons hA
  obtain ⟨v1, vs1, d1, ds1, p1, q1, rfl, rfl, rfl, h1, r1⟩ := trodAll_cons r0
  obtain ⟨v2, vs2, d2, ds2, p2, q2, rfl, rfl, rfl, h2, r2⟩ := trodAll_cons r1
  obtain ⟨rfl, rfl, rfl⟩ := trodAll_nil r2
  obtain rfl : args = #[v0, v1, v2] := by cases args; simp_all
  obtain ⟨rfl, rfl⟩ := trodVars_none hV
  obtain ⟨a0, rfl, rfl, rfl, w0⟩ := open_int Tryz.underlying2 (hval 0 2 v0 rfl rfl) h0
  obtain ⟨a1, rfl, rfl, rfl, w1⟩ := open_int Tryz.underlying3 (hval 1 3 v1 rfl rfl) h1
  obtain ⟨a2, rfl, rfl, rfl, w2⟩ := open_int Tryz.underlying3 (hval 2 3 v2 rfl rfl) h2
  have hL0 := hL
  rw [MakeChecks.laidMetH_plain _ _ _ (by kernel_rfl)] at hL0
  obtain ⟨hT, hE⟩ := hlaid19 (W := W) hL0 (Er.gmax_le hsh)
  clear hA0 hval0
  refine (hotbegins_all a0 a1 a2 W l19_all2 hE hT).mono fun e W' ⟨he, bel⟩ => ?_
  subst he
  exact ⟨_, rfl, _, _, _, [], _, [], hW', trodAll_mk1 (shut_bool Tryz.underlying4 _), (trodAll_cons_mk (shut_int Tryz.underlying2 w0) (trodAll_cons_mk (shut_int Tryz.underlying3 w1) (trodAll_cons_mk (shut_int Tryz.underlying3 w2) trodAll_mk0))), rfl, bel.frame _, fun h => by cases h⟩

set_option maxRecDepth 100000 in
theorem lifted (os : Os) (started : os.Started) (H : Type) (enc : TypeId × Value → H) (F : Stop.Interp) :
    ReturnsInHanded {} Tryz.checked os 8 .any ((OpenSpec.ofChange Rows.hotBeginsSpec).preRow enc Tryz.prog Tryz.f8 Rows.hotBeginsRow.domain false Rows.hotBeginsRow.laid) (((OpenSpec.ofChange Rows.hotBeginsSpec).at F).post enc Tryz.prog Tryz.f8 false true false false) := by
  obtain ⟨places, hx⟩ := reads os enc
  refine returnsInHanded_of_row (C := Tryz.checked) (s := OpenSpec.ofChange Rows.hotBeginsSpec) own started (by kernel_rfl) Tryz.func8
    (witness_row_atRef (enc := enc) (C := Tryz.checked) false (World.doorLaid Tryz.prog 400 os) #[.int .i64 0, .int .i64 0, .int .i64 0] rfl (by kernel_rfl) (by kernel_rfl) (by kernel_rfl)
      (OpenSpec.preRow_of_cond 8 hx (by kernel_rfl) (fun k hk => by cases hk) (by kernel_rfl) (door_met os _))) ?_
  intro W base args ds gs before hval hW _ _ _ hL hsh _
  exact contract H enc W base args ds gs before hval hW hL hsh

theorem hunf : Tryz.prog.unfollowed 8 = true := by kernel_rfl
theorem hinp : Tryz.prog.inPlace 8 = Rows.hotBeginsRow.inPlace := by kernel_rfl
theorem hnam : Tryz.prog.varsNamed 8 = Rows.hotBeginsRow.named := by kernel_rfl
theorem hrec : Tryz.prog.recurses 8 = true := by unfold Program.recurses; rw [hunf]; rfl
theorem closed : joinedFacts Tryz.prog 8 Tryz.f8 (OpenSpec.ofChange Rows.hotBeginsSpec).bare Rows.hotBeginsRow = true := by unfold joinedFacts; rw [hinp, hunf, hrec, hnam]; kernel_rfl

theorem said : Rows.HotBeginsSaid :=
  OpenClaim.holds_of_cond 8 Tryz.f8 rfl rfl rfl rfl rfl rfl rfl ⟨rfl, rfl, rfl, rfl, rfl⟩ rfl rfl rfl rfl rfl (by kernel_rfl) Tryz.func8 closed
    (of_decide_eq_true (by kernel_rfl)) (by unfold Func.isWrapper; rw [if_neg (of_decide_eq_false (by kernel_rfl))]; exact ⟨rfl, rfl⟩)
    (fun os started H enc _ F => by rw [OpenClaim.pre_eq_preRow]; exact lifted os started H enc F)

theorem plain (f : FuncId) (fn : Func) (hf : Tryz.pinned.checked.prog.funcNamed "cordwood/cordwoodlaw10.HotBegins" = some f) (hfn : Tryz.pinned.checked.prog.funcs[f]? = some fn) :
    true = Tryz.pinned.checked.prog.looks [] ∧ ∀ (j : Nat) t, fn.params[j]? = some t → Tryz.pinned.checked.prog.wantsStandIn t = false := by
  obtain rfl : f = 8 := Option.some.inj ((show Tryz.prog.funcNamed "cordwood/cordwoodlaw10.HotBegins" = some 8 by kernel_rfl).symm.trans hf) |>.symm
  obtain rfl : fn = Tryz.f8 := (Option.some.inj (Tryz.func8.symm.trans hfn)).symm
  refine ⟨by kernel_rfl, fun j t ht => ?_⟩
  rw [Tryz.params8] at ht
  have hm := Array.mem_of_getElem? ht
  have ht2 : t = 2 ∨ t = 3 := by simpa [or_assoc] using hm
  rcases ht2 with rfl | rfl
  · exact (show Tryz.prog.wantsStandIn 2 = false by kernel_rfl)
  · exact (show Tryz.prog.wantsStandIn 3 = false by kernel_rfl)

/-- THE CARD -/
theorem card : Rows.HotBeginsCardSaid :=
  Claim7.holds_tied_plain_at .later [] _ _ _ _ said (fun _ h => by cases h) (by kernel_rfl) (fun _ h => by cases h) hotBegins_row_tie rfl ⟨rfl, rfl⟩ (by kernel_rfl) rfl plain (by kernel_rfl)
#print axioms card
end Go.Proofs.YtepmblomgmghcaaGreatDoor.hotBegins
