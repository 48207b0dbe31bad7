/- cordwoodlaw10.all, joined; Row's batches of at most thirty numbers; the segments' triples. cordwoodlaw10.HotRolls answers true for every input. The table of powers and the errors out of the lists of chapter 10's rows. The statement HotRolls of chapter 10 holds for every input: the call returns true and leaves its arguments as they were. -/
import Derived.Test.YtepmblomgmghcaaGreatDoorMl
import Derived.Test.YtepmblomgmghcaaGreatDoorMg
import Derived.Test.YtepmblomgmghcaaGreatDoorMi
import Derived.Test.YtepmblomgmghcaaGreatDoorMe
import Derived.Test.YtepmblomgmghcaaGreatDoorMf
import Derived.Test.YtepmblomgmghcaaGreatDoorRows
import Derived.Test.YtepmblomgmghcaaGreatDoorCards
import Derived.Test.YtepmblomgmghcaaGreatDoorTie
import Derived.ChangeKeysEq
import Derived.Stop.LaidErr
import Derived.ProofKit
import Derived.OpenShut
import Derived.LaidMore
import Derived.Deep.DeepWitnessRowRef

/-! Hr -/
namespace Go.Proofs.YtepmblomgmghcaaGreatDoor.Sg
open Go.RowKit Er Go.Maps

theorem row_rn (every : Nat) : ∀ (l : List Int) (i : Nat) (a : Int), ∀ x, x ∈ rowGo every l i a → x.r.length ≤ 5
  | [], _, _, x, hx => by cases hx
  | s :: l, i, a, x, hx => by
    rcases List.mem_cons.1 hx with rfl | hx
    · rw [rBt_len]; exact (rN_pos s).2
    · exact row_rn every l _ _ x hx
theorem szB_le5 (x : Bt) (h : BtOk x) (hr : x.r.length ≤ 5) : szB x ≤ 3200 := by
  have h0 := batB_len x
  have h1 := bodyR_len (t0 x) x.r (t0_in x h) h.rs
  have h2 := vput_len64 (zig (t0 x)) (by have := t0_in x h; have := zig_lt (t0 x) (by omega) (by omega); omega)
  have h3 : (bodyB x).length ≤ 3100 := by simp [bodyB, headB, leB_len]; omega
  unfold szB; omega
theorem row30 (every : Nat) (xs : List Int) (base : Nat) (hb : base ≤ 1073741824) (hx : xs.length ≤ 30) : Chain base 0 (rowGo every xs 0 base) ∧ (∀ x, x ∈ rowGo every xs 0 base → BtOk x ∧ BtBy x) ∧ sizes (rowGo every xs 0 base) ≤ 96000 := by
  have hok := row_ok every xs 0 base (by omega) (by omega) (by omega)
  refine ⟨row_chain every xs 0 base 0 (by have := (rEp_mono every 0).2; omega), hok, ?_⟩
  have h : ∀ L : List Bt, (∀ x, x ∈ L → szB x ≤ 3200) → sizes L ≤ L.length * 3200 := by
    intro L
    induction L with
    | nil => intro _; simp [sizes]
    | cons x L ih =>
      intro h
      have h1 := h x List.mem_cons_self
      have h2 := ih (fun y hy => h y (List.mem_cons_of_mem _ hy))
      simp only [sizes, List.map_cons, List.sum_cons, List.length_cons] at h2 ⊢
      omega
  have h1 := h _ (fun x hx => szB_le5 x (hok x hx).1 (row_rn every xs 0 base x hx))
  rw [row_len] at h1
  omega

theorem row_m {P : Pm} {F : Mm} {w : World} (hH : Hp w P F) (a : Option Addr) (xs : List Int) (c n : Nat) (hn : xs.length = n) (hr : Pers P (fun w => IntsR w a xs)) (every : Nat) (he : every ≤ 1000000) (hx : n ≤ 1000000) (base : Int) (h0 : 0 ≤ base) (h1 : base ≤ 1099511627776) :
    Calls Tryz.prog 29 #[.int .i64 base, .slice a n c, .int .i64 every] w fun e w' => ∃ v P' out, e = .returned v ∧ Sub P P' ∧ out.map (·.1) = rowGo every xs 0 base ∧ BtsP P' v out ∧ Hp w' P' F := by
  subst hn
  exact row_p hH a xs c hr every he hx base h0 h1

/-- Two triples alike are equal. -/
theorem eqTri (u0 u1 u2 : Int) (w : World) : Sem.run Tryz.prog (Op.equalIn 10000 61 (.agg #[.int .i64 u0, .int .i64 u1, .int .i64 u2]) (.agg #[.int .i64 u0, .int .i64 u1, .int .i64 u2])) w = .ok true w := by
  obtain ⟨i, hi⟩ := info_of_underlying Tryz.underlying2
  have h := run_equalIn_array (P := Tryz.prog) w 9999 (t := 61) #[.int .i64 u0, .int .i64 u1, .int .i64 u2] #[.int .i64 u0, .int .i64 u1, .int .i64 u2] (n := 3) (e := 2) Tryz.underlying61 hi
  have hc : Tryz.prog.cellsOf 2 = 1 := by kernel_rfl
  rw [h, hc, show List.range 3 = [0, 1, 2] from rfl]
  simp [Op.eqItems, part, go_sem]

/-- Triples of lists of batches one behind the other. -/
def triL : Int → List (List Bt) → List Tri
  | _, [] => []
  | b, m :: ms => (b, endOf b m, sizes m) :: triL (endOf b m) ms
theorem triL_snoc : ∀ (ms : List (List Bt)) (b : Int) (m : List Bt), triL b (ms ++ [m]) = triL b ms ++ [(endOf b ms.flatten, endOf b (ms ++ [m]).flatten, sizes m)]
  | [], b, m => by simp [triL, endOf]
  | x :: ms, b, m => by
    show (b, endOf b x, sizes x) :: triL (endOf b x) (ms ++ [m]) = _
    rw [triL_snoc ms]
    simp only [List.flatten_cons, List.cons_append, endOf_app, triL, List.flatten_append]
theorem triL_len : ∀ (ms : List (List Bt)) (b : Int), (triL b ms).length = ms.length
  | [], _ => rfl
  | m :: ms, b => by simp [triL, triL_len ms]
theorem lk_tri : ∀ (L : List (Nat × Sg)) (b : Int), Lk b (L.map (·.2)) → L.map (fun p => triG p.2) = triL b (L.map (·.2.l))
  | [], _, _ => rfl
  | p :: L, b, ⟨h1, _, h3⟩ => by
    have := lk_tri L _ h3
    rw [List.map_cons, List.map_cons, this]
    show (triG p.2 :: triL p.2.end_ (L.map (·.2.l))) = (b, endOf b p.2.l, sizes p.2.l) :: triL (endOf b p.2.l) (L.map (·.2.l))
    rw [← h1, ← end_eq]; rfl

section
variable {S : List Nat} {E : Nat → Addr} {B : Nat} {P : Pm} {h : Nat} {H : Hl} {D : Dk} {A Ad F : Mm} {w : World} {b0 : Int} {l : List Bt}

/-- Where one stands behind so many segments: at the end, or ahead of a segment that has batches. -/
theorem HotOn.upto (hO : HotOn D H b0 l) (k : Nat) (hk : k ≤ H.L.length) :
    (endOf b0 ((H.L.take k).map (·.2.l)).flatten = endOf b0 l ∧ ((H.L.take k).map (·.2.l)).flatten = l) ∨
    ∃ (hk : k < H.L.length), endOf b0 ((H.L.take k).map (·.2.l)).flatten < endOf b0 l ∧ ((H.L[k]).2.base : Int) = endOf b0 ((H.L.take k).map (·.2.l)).flatten ∧ (H.L[k]).2.l ≠ [] := by
  by_cases hkn : k < H.L.length
  · have hsp : H.L = H.L.take k ++ ((H.L[k]).1, (H.L[k]).2) :: H.L.drop (k + 1) := HlM.nth k hkn
    obtain ⟨h1, h2, h3, h4, h5⟩ := hO.split hsp
    by_cases he : (H.L[k]).2.l = []
    · left
      have hd : H.L.drop (k + 1) = [] := Classical.byContradiction fun hd => by
        have hk2 := hO.lk
        rw [hsp, List.map_append, List.map_cons] at hk2
        exact (hk2.app.2.1 (by simpa using hd)).1 he
      rw [hd, he] at h5
      have h6 : ((H.L.take k).map (·.2.l)).flatten = l := by rw [h5]; simp
      exact ⟨by rw [h6], h6⟩
    · right
      refine ⟨hkn, ?_, h2, he⟩
      have hr : ∀ x, x ∈ ((H.L.drop (k + 1)).map (·.2.l)).flatten → 1 ≤ x.r.length := fun x hx => (hO.ok x (by rw [h5]; simp only [List.mem_append]; exact .inr (.inr hx))).1.n1
      have hg := chain_ge _ _ _ h4 hr
      have hs := hO.segend (p := ((H.L[k]).1, (H.L[k]).2)) (show H.L[k] ∈ H.L from List.getElem_mem hkn)
      have hl : 0 < (H.L[k]).2.l.length := List.length_pos_iff.2 he
      have e1 : endOf b0 l = endOf (H.L[k]).2.end_ ((H.L.drop (k + 1)).map (·.2.l)).flatten := by
        conv => lhs; rw [h5, endOf_app, endOf_app, ← h2, ← end_eq]
      rw [e1, ← h2]
      dsimp only at hs
      omega
  · left
    have e : H.L.take k = H.L := List.take_of_length_le (by omega)
    rw [e, hO.fl]
    exact ⟨rfl, rfl⟩
theorem perm_t (A B C E : Mm) : List.Perm (A ++ (B ++ (C ++ E))) (C ++ (A ++ (B ++ E))) := by
  have := perm_mid (A ++ B) C E
  simpa [List.append_assoc] using this

/-- What holds at the head of all's loop. -/
def All10Rel (P : Pm) (F A Ad : Mm) (H : Hl) (b0 : Int) (m : Nat) (vo va : Value) (w : World) : Prop :=
  ∃ (k : Nat) (P' : Pm) (out : List (Bt × Value)) (Ao : Mm), k + m = H.L.length ∧ va = .int .i64 (endOf b0 ((H.L.take k).map (·.2.l)).flatten) ∧ Sub P P' ∧ BtsM P' vo ((H.L.take k).map (·.2.l)).flatten out Ao ∧ Hp w P' (A ++ (Ad ++ (Ao ++ F)))

set_option maxRecDepth 100000 in
set_option maxHeartbeats 2000000 in
theorem all10_ok (C : Ctx S E B P) (hM : HlM h H A) (hO : HotOn D H b0 l) (hne : H.L ≠ []) (hD : DkM P H.d D Ad) (hsz : sizes l ≤ 1048576) (hll : l.length ≤ 1000) (hH : Hp w P (A ++ (Ad ++ F))) :
    Calls Tryz.prog 43 #[ptr h] w fun e w' => ∃ v out P', e = .returned (.tuple #[v, .bool true]) ∧ Sub P P' ∧ out.map (·.1) = l ∧ BtsP P' v out ∧ Hp w' P' (A ++ (Ad ++ F)) := by
  have hst := hO.hstart hne
  have hen := hO.hend hne
  have HST := Lib.hid hst
  have HEN := Lib.hid hen
  have HM := Lib.hid hM
  have HO := Lib.hid hO
  have HD := Lib.hid hD
  have H0 := Lib.hid hH
  have HSZ := Lib.hid hsz
  clear hst hen hM hO hD hH hsz hne
  obtain ⟨en, hen2⟩ : ∃ en, endOf b0 l = en := ⟨_, rfl⟩
  go_enter Tryz.func43, Tryz.ntmps43
  go_wp2_with fail
  refine (hstart_ok HM.out HO.out.W H0.out).mono ?_
  rintro e w1 ⟨rfl, hH1⟩
  rw [HST.out]
  have H1 := Lib.hid hH1
  clear hH1
  go_wp2_with fail
  go_loopg [4, 5] H.L.length (fun m vo va wr => All10Rel P F A Ad H b0 m vo va wr)
  case atStart => exact ⟨0, P, [], [], by omega, rfl, Sub.refl _, BtsM.nil P, H1.out⟩
  case round =>
    obtain ⟨k, P1, out, Ao, hk, rfl, hs1, hB, hHr⟩ := hrel
    obtain ⟨va, vc, rfl⟩ := hB.row.shape
    rcases HO.out.upto k (by omega) with ⟨heq, hfl⟩ | ⟨hkn, hlt, hbase, hgl⟩
    · rw [heq]
      have HR := Lib.hid hHr
      have HB := Lib.hid hB
      have HS1 := Lib.hid hs1
      have HFL := Lib.hid hfl
      rw [hen2]
      rw [hfl]
      clear hHr hB hs1 hfl heq
      go_wp2_with fail
      refine (hend_ok HM.out HO.out.W HR.out).mono ?_
      rintro e w2 ⟨rfl, hH2⟩
      rw [HEN.out, hen2]
      have H2 := Lib.hid hH2
      clear hH2
      go_wp2_with fail
      go_ret2
      obtain ⟨P2, hs2, hb2, hH3⟩ := HB.out.seal (H2.out.perm (perm_t A Ad Ao F))
      have hmm := HB.out.map.trans HFL.out
      rw [HFL.out] at hb2
      exact ⟨.slice va l.length vc, out, P2, rfl, HS1.out.trans hs2, hmm, hb2, hH3⟩
    · obtain ⟨gj, rfl⟩ : ∃ x, gk = x + 1 := ⟨gk - 1, by omega⟩
      rw [hen2] at hlt
      have hsp : H.L = H.L.take k ++ ((H.L[k]).1, (H.L[k]).2) :: H.L.drop (k + 1) := HlM.nth k hkn
      have hch := HO.out.chain hsp
      have hgm : ((H.L[k]).1, (H.L[k]).2) ∈ H.L := (show H.L[k] ∈ H.L from List.getElem_mem hkn)
      have hse := HO.out.segend hgm
      have hsg := sum_sub H.L _ hgm
      rw [HO.out.fl] at hsg
      have hokG := (HO.out.sg _ hgm).1.ok
      have hbyG := (HO.out.sg _ hgm).1.by_
      have htk : ((H.L.take (k + 1)).map (·.2.l)).flatten = ((H.L.take k).map (·.2.l)).flatten ++ (H.L[k]).2.l := by rw [take_next H.L k hkn]; simp only [List.map_append, List.map_cons, List.map_nil, List.flatten_append, List.flatten_cons, List.flatten_nil, List.append_nil]
      have hlen2 : ((H.L.take k).map (·.2.l)).flatten.length + (H.L[k]).2.l.length ≤ 1000 := by
        have h5 := (HO.out.split hsp).2.2.2.2
        have := congrArg List.length h5
        simp only [List.length_append] at this
        omega
      obtain ⟨s, hs⟩ : ∃ s, (H.L[k]).1 = s := ⟨_, rfl⟩
      obtain ⟨G, hG⟩ : ∃ G, (H.L[k]).2 = G := ⟨_, rfl⟩
      rw [hG] at hgl hbase hch hse hsg hokG hbyG htk hlen2
      rw [hs, hG] at hsp
      try dsimp only at hse hsg hokG hbyG
      obtain ⟨g0, x, hgx⟩ : ∃ g0 x, G.l = g0 ++ [x] := by
        rcases snoc_cases G.l with h0 | h0
        · exact absurd h0 hgl
        · exact h0
      have hxo : BtOk x := hokG x (by rw [hgx]; simp)
      have hend2 : endOf b0 ((H.L.take (k + 1)).map (·.2.l)).flatten = x.b + x.r.length := by rw [htk, hgx, ← List.append_assoc, endOf_snoc]
      have hgl1 : 0 < G.l.length := List.length_pos_iff.2 hgl
      have hall : rdGo G.base 1048576 G.l [] 0 = G.l := rdGo_all G.base 1048576 G.l [] 0 _ _ hch (Int.le_refl _) (fun y hy => (hokG y hy).n1) (by have := HSZ.out; omega)
      obtain ⟨P0, hP0⟩ : ∃ z, ((H.L.take k).map (·.2.l)).flatten = z := ⟨_, rfl⟩
      rw [hP0] at hlt hB hbase htk hlen2
      rw [← hbase] at hlt
      rw [hP0, ← hbase]
      have hss : G.base < G.end_ := by omega
      have HR := Lib.hid (hHr)
      have HB := Lib.hid hB
      have HS1 := Lib.hid hs1
      have HALL := Lib.hid hall
      have HSP := Lib.hid hsp
      have HTK := Lib.hid htk
      have HGX := Lib.hid hgx
      have HE2 := Lib.hid hend2
      have HXO := Lib.hid hxo
      have HLE := Lib.hid hlen2
      have HP0 := Lib.hid hP0
      clear hHr hB hs1 hall hsp htk hgx hend2 hxo hlen2 hch hgm hsg hokG hbyG hG hs hbase hP0
      go_wp2_with fail
      refine (hend_ok HM.out HO.out.W HR.out).mono ?_
      rintro e w2 ⟨rfl, hH2⟩
      rw [HEN.out, hen2]
      have H2 := Lib.hid hH2
      clear hH2
      go_wp2_with fail
      refine (hread_seg (C.sub HS1.out) HM.out HO.out (HD.out.sub HS1.out) HSP.out G.base 1048576 (Int.le_refl _) hss (by decide) (by decide) H2.out).mono ?_
      rintro e w3 ⟨v3, out3, P3, rfl, hs3, hm3, hb3, hH3⟩
      rw [HALL.out] at hm3
      obtain ⟨sa, sc, rfl, hsc⟩ := hb3.shape
      have hol : out3.length = G.l.length := by rw [← hm3, List.length_map]
      rw [hol] at hb3 hsc ⊢
      have hj : G.l.length - 1 < out3.length := by omega
      obtain ⟨g, off, cap, hvv, hcap, hbc⟩ := hb3.at_ hj
      have hx3 : (out3[G.l.length - 1]'hj).1 = x := by
        have h1 : (out3.map (·.1))[G.l.length - 1]? = some x := by rw [hm3, HGX.out]; simp
        rw [List.getElem?_map, List.getElem?_eq_getElem hj] at h1
        simpa using h1
      have H3 := Lib.hid (hH3.perm (perm_t A Ad Ao F))
      have HB3 := Lib.hid hb3
      have HS3 := Lib.hid hs3
      have HBC := Lib.hid hbc
      have HM3 := Lib.hid hm3
      have HX3 := Lib.hid hx3
      have HOL := Lib.hid hol
      have hne3 : (G.l.length : Int) ≠ 0 := by omega
      simp only [hol] at hvv
      simp only [Value.slice.injEq] at hvv
      obtain ⟨rfl, -, rfl⟩ := hvv
      obtain ⟨n3, hn3⟩ : ∃ n, G.l.length = n + 1 := ⟨G.l.length - 1, by omega⟩
      rw [hn3] at HB3 HOL hsc ⊢
      have HN3 := Lib.hid hn3
      have hnb : n3 ≤ 1000 := by have := HLE.out; omega
      clear hH3 hs3 hb3 hbc hm3 hx3 hne3 hol
      go_wp2_with (at_builtin; refine wpList_app_bts rfl _ _ rfl (.slice va P0.length vc) P0 out rfl (HB.out.sub HS3.out) (.slice (some ⟨g, off, none⟩) (n3 + 1) sc) out3 rfl HB3.out H3.out (by have := HLE.out; rw [HOL.out]; omega) ?_)
      intro v4 w4 A4 hbm4 hH4
      obtain ⟨ya, yc, rfl⟩ := hbm4.row.shape
      obtain ⟨-, c0, c1, c2, hrc⟩ := hH4.use HBC.out
      have hbv : BtV w4 (.agg #[.int .i64 x.b, .int .i64 x.e, (out3[G.l.length - 1]'hj).2]) x := ⟨_, rfl, by have := hrc; rwa [HX3.out] at this⟩
      rw [HX3.out] at c0 c1
      obtain ⟨p2, hp2⟩ : ∃ p2, (out3[G.l.length - 1]'hj).2 = p2 := ⟨_, rfl⟩
      rw [hp2] at c2 hbv
      rw [HN3.out, show n3 + 1 - 1 = n3 from rfl] at c0 c1 c2
      have H4 := Lib.hid hH4
      have HBM4 := Lib.hid hbm4
      clear hH4 hbm4 hrc hp2
      go_wp2_with fail
      refine (rnext_any x (by have := HXO.out.b0; omega) (by have := HXO.out.b1; omega) (by have := HXO.out.n64; omega) _ _ hbv).mono ?_
      rintro e w5 ⟨rfl, hb5⟩
      have H5 := Lib.hid (H4.out.below hb5 (Nat.le_refl _))
      clear hb5
      go_wp2_with fail
      go_roundg gj
      case measure => omega
      case rel =>
        refine ⟨k + 1, P3, out ++ out3, A4, by omega, by rw [HE2.out], HS1.out.trans HS3.out, ?_, ?_⟩
        · rw [HTK.out, ← HM3.out]; have := HBM4.out; rwa [List.length_append, List.length_map] at this
        · have := perm_mid A4 (A ++ Ad) F
          exact H5.out.perm (by simpa [List.append_assoc] using this)

theorem joined10_ok {w : World} {v1 v2 : Value} {L : List Bt} (h1 : BtsR w v1 L) (h2 : BtsR w v2 L) (hl : L.length ≤ 1000000000) (hs : ∀ x, x ∈ L → BtSm x) :
    Calls Tryz.prog 44 #[v1, v2] w fun e w' => e = .returned (.bool true) ∧ Below w.heap.size w w' := by
  go_enter Tryz.func44, Tryz.ntmps44
  go_wp2_with fail
  refine (samebatches_ok h1 h2 hl hs).mono ?_
  rintro e w1 ⟨rfl, hb⟩
  have HB := Lib.hid hb
  clear hb
  go_wp2_with fail
  go_ret
  exact ⟨rfl, HB.out⟩
end
end Go.Proofs.YtepmblomgmghcaaGreatDoor.Sg

/-! Jb -/
namespace Go.Proofs.YtepmblomgmghcaaGreatDoor.Sg
open Go.RowKit Er Go.Maps

theorem roll_len (m : Nat) (l : List Bt) : (rollF m l).1.length ≤ l.length := by
  obtain ⟨n, hn⟩ : ∃ n, l.length = n := ⟨_, rfl⟩
  induction n generalizing l with
  | zero => rw [List.eq_nil_of_length_eq_zero hn]; exact Nat.le_refl _
  | succ n ih =>
    rcases snoc_cases l with rfl | ⟨l0, x, rfl⟩
    · exact Nat.le_refl _
    · have := ih l0 (by simpa using hn)
      rw [rollF_snoc]
      unfold rollAdd
      split <;> simp <;> omega
theorem TriM.get {P : Pm} {w : World} {Ap F : Mm} {v : Value} {l : List Tri} (hr : TriM v l Ap) (hH : Hp w P (Ap ++ F)) {j : Nat} (hj : j < l.length) : ∃ g c, v = .slice (some ⟨g, 0, none⟩) l.length c ∧ l.length ≤ c ∧ w.cell? ⟨g, j * 3, none⟩ = some (.int .i64 (l[j]).1) ∧ w.cell? ⟨g, j * 3 + 1, none⟩ = some (.int .i64 (l[j]).2.1) ∧ w.cell? ⟨g, j * 3 + 2, none⟩ = some (.int .i64 (l[j]).2.2) := by
  obtain ⟨h1, h2, h3⟩ := triV_at l j l[j] (List.getElem?_eq_getElem hj)
  obtain ⟨g, c, e1, e2, e3⟩ := RowM.cell hr hH h1
  obtain ⟨g', c', e4, e5, e6⟩ := RowM.cell hr hH h2
  obtain ⟨g2, c2, e7, e8, e9⟩ := RowM.cell hr hH h3
  rw [e1] at e4 e7
  cases e4
  cases e7
  exact ⟨g, c, e1, e2, e3, e6, e9⟩
theorem roll_sz (m : Nat) (l : List Bt) : sizes (rollF m l).2 ≤ sizes l := by
  have := congrArg sizes (rollF_flat m l)
  simp only [stL, List.flatten_append, List.flatten_cons, List.flatten_nil, List.append_nil, sizes_app] at this
  omega
theorem roll_end (m : Nat) (b : Int) (l : List Bt) : endOf b ((rollF m l).1 ++ [(rollF m l).2]).flatten = endOf b l := by
  have := rollF_flat m l
  unfold stL at this
  rw [this]

section
variable {S : List Nat} {E : Nat → Addr} {B : Nat} {P : Pm} {F : Mm} {w : World}

/-- What holds at the head of HotRolls' first loop. -/
def RollRel (P : Pm) (M : Mm) (base : Int) (seg : Nat) (L : List Bt) (m : Nat) (vw vs vf va vi : Value) (w : World) : Prop :=
  ∃ (k : Nat) (At : Mm), k + m = L.length ∧ vi = .int .i64 k ∧ vs = .int .i64 (sizes (rollF seg (L.take k)).2) ∧ vf = .int .i64 (endOf base (rollF seg (L.take k)).1.flatten) ∧ va = .int .i64 (endOf base (L.take k)) ∧
    TriM vw (triL base (rollF seg (L.take k)).1) At ∧ Hp w P (At ++ M)

set_option maxRecDepth 100000 in
set_option maxHeartbeats 4000000 in
theorem hotrolls_all (a0 : Option Addr) (len0 cap0 : Nat) (z0 : List Int) (a b : Int) (W : World) (h : IsRow W a0 len0 cap0 z0) {S : List Nat} (hS : ∀ i, i < 10 ∨ i = 14 → i ∈ S) (hE : Errs S W (errAt W) W.heap.size)
    (hT : Lib.TabIs Tryz.prog W "internal/strconv.uint64pow10" .u64 Lib.pow10Tab) :
    Calls Tryz.prog 7 #[.slice a0 len0 cap0, .int .i64 a, .int .i64 b] W fun e W' => e = .returned (.bool true) ∧ Below W.heap.size W W' := by
  have C := ctx_start hS hE hT
  obtain ⟨xs, rfl, hC⟩ := isRow_C h
  have hCp := ints_pers hC
  have H0 : Hid (Hp W (Pm.start W) []) := Hp.start W
  clear h hC hE hT
  have HCP := Lib.hid hCp
  clear hCp
  by_cases hlen : 30 < xs.length
  · go_enter Tryz.func7, Tryz.ntmps7
    go_wp2_with fail
    refine (first10_ok C H0.out).mono ?_
    rintro e w1 ⟨rfl, P1, hs1, hH1⟩
    have HB := Lib.hid (hH1.to_below hs1)
    clear hH1 hs1
    go_wp2_with fail
    go_ret
    exact ⟨rfl, HB.out⟩
  · have hl1 : xs.length ≤ 30 := by omega
    obtain ⟨qb, hqb⟩ : ∃ q : Nat, b % (1073741824 : Int) = (q : Int) := ⟨(b % 1073741824).toNat, by omega⟩
    have hqb5 : qb ≤ 1073741824 := by omega
    obtain ⟨hch, hok, hsz⟩ := row30 4 xs qb hqb5 hl1
    obtain ⟨L, hLd⟩ : ∃ L, L = rowGo 4 xs 0 ((qb : Nat) : Int) := ⟨_, rfl⟩
    have hll : L.length = xs.length := by rw [hLd]; exact row_len 4 xs 0 _
    rw [← hLd] at hch hok hsz
    obtain ⟨n, hn⟩ : ∃ n, xs.length = n := ⟨_, rfl⟩
    rw [hn] at hl1 hll
    obtain ⟨qa, hqa⟩ : ∃ q : Nat, a % ((400 : Nat) : Int) = (q : Int) := ⟨(a % 400).toNat, by omega⟩
    have hqa5 : qa < 400 := by omega
    have HQA := Lib.hid hqa
    have HQB := Lib.hid hqb
    have HLD := Lib.hid hLd
    have HCH := Lib.hid hch
    have HOK := Lib.hid hok
    have HSZ := Lib.hid hsz
    have HLL := Lib.hid hll
    have HNX := Lib.hid hn
    rw [hn]
    clear hlen hLd hch hok hsz hll hn hqa hqb
    go_enter Tryz.func7, Tryz.ntmps7
    go_wp2_with fail
    refine (first10_ok C H0.out).mono ?_
    rintro e w1 ⟨rfl, P1, hs1, hH1⟩
    have H1 := Lib.hid hH1
    have HS1 := Lib.hid hs1
    clear hH1 hs1
    go_wp2_with fail
    refine (number_any a 400 (by omega) (by omega) _).mono ?_
    rintro e w' ⟨rfl, rfl⟩
    rw [HQA.out]
    go_wp2_with fail
    rw [show (qa : Int) + 1 = ((qa + 1 : Nat) : Int) from rfl]
    refine (long_any b 1073741824 (by decide) (by decide) _).mono ?_
    rintro e w' ⟨rfl, rfl⟩
    rw [HQB.out]
    go_wp2_with fail
    refine (row_m H1.out a0 xs cap0 n HNX.out (HCP.out.sub HS1.out) 4 (by decide) (by omega) (qb : Int) (by omega) (by omega)).mono ?_
    rintro e w2 ⟨v2, P2, out2, rfl, hs2, hm2, hb2, hH2⟩
    have hm2' : out2.map (·.1) = L := hm2.trans HLD.out.symm
    have hol : out2.length = n := by have := congrArg List.length hm2'; rw [List.length_map, HLL.out] at this; exact this
    have H2 := Lib.hid hH2
    have HB2 := Lib.hid hb2
    have HM2 := Lib.hid hm2'
    have HO2 := Lib.hid hol
    have HS2 := Lib.hid (HS1.out.trans hs2)
    have HC2 := Lib.hid (C.sub (HS1.out.trans hs2))
    clear hm2 hs2 hb2 hH2 hm2' hol
    obtain ⟨va, vc, hva, hvc⟩ := HB2.out.shape
    rw [HO2.out] at hva hvc
    subst hva
    go_wp2_with fail
    refine (made10_ok HC2.out (qa + 1) (by omega) (by omega) qb (by omega) _ out2 HB2.out L HM2.out HCH.out HOK.out (by have := HSZ.out; omega) H2.out).mono ?_
    rintro e w3 ⟨dx, hx, P3, Ax, Adx, Dx, Hx, rfl, hs3, hMx, hDx, hOx, -, -, -, hroll, -, -, -, hnx, hH3⟩
    have hen := hOx.hend hnx
    have hst := hOx.hstart hnx
    have htri : Hx.L.map (fun p => triG p.2) = triL (qb : Int) (stL (rollF (qa + 1) L)) := by rw [lk_tri _ _ hOx.lk, hroll]
    obtain ⟨M0, hM0⟩ : ∃ M0, Adx ++ [] = M0 := ⟨_, rfl⟩
    rw [hM0] at hH3
    have HM0 := Lib.hid hM0
    have H3 := Lib.hid hH3
    have HMx := Lib.hid hMx
    have HDx := Lib.hid hDx
    have HOx := Lib.hid hOx
    have HNx := Lib.hid hnx
    have HEN := Lib.hid hen
    have HST := Lib.hid hst
    have HTRI := Lib.hid htri
    have HS3 := Lib.hid (HS2.out.trans hs3)
    have HC3 := Lib.hid (HC2.out.sub hs3)
    have HB3 := Lib.hid (HB2.out.sub hs3)
    clear hH3 hs3 hMx hDx hOx hnx hen hst htri hroll hM0
    go_wp2_with fail
    go_loopg [11, 12, 13, 14, 15] L.length (fun m vw vs vf va vi wr => RollRel P3 (Ax ++ M0) qb (qa + 1) L m vw vs vf va vi wr)
    case atStart => exact ⟨0, [], by omega, rfl, rfl, rfl, rfl, tri_nil, H3.out⟩
    case round =>
      obtain ⟨k, At, hk, rfl, rfl, rfl, rfl, htr, hHr⟩ := hrel
      obtain ⟨ta, tc, rfl⟩ := htr.shape
      have hml := roll_len (qa + 1) (L.take k)
      have hms := roll_sz (qa + 1) (L.take k)
      have hre := roll_end (qa + 1) (qb : Int) (L.take k)
      obtain ⟨m1, hm1⟩ : ∃ m1, (rollF (qa + 1) (L.take k)).1 = m1 := ⟨_, rfl⟩
      obtain ⟨m2, hm2⟩ : ∃ m2, (rollF (qa + 1) (L.take k)).2 = m2 := ⟨_, rfl⟩
      have hsnoc := triL_snoc m1 (qb : Int) m2
      rw [hm1] at htr hml hre ⊢
      rw [hm2] at hms hre ⊢
      rw [hre] at hsnoc
      obtain ⟨T, hT⟩ : ∃ T, triL (qb : Int) m1 = T := ⟨_, rfl⟩
      have hTl : T.length = m1.length := by rw [← hT, triL_len]
      rw [hT] at htr hsnoc ⊢
      obtain ⟨tn, htn⟩ : ∃ tn, T.length = tn := ⟨_, rfl⟩
      rw [htn] at hTl ⊢
      obtain ⟨fr, hfr⟩ : ∃ fr, endOf (qb : Int) m1.flatten = fr := ⟨_, rfl⟩
      obtain ⟨at_, hat⟩ : ∃ at_, endOf (qb : Int) (L.take k) = at_ := ⟨_, rfl⟩
      obtain ⟨s2, hs2⟩ : ∃ s2, sizes m2 = s2 := ⟨_, rfl⟩
      have hfl2 : endOf (qb : Int) (m1 ++ [m2]).flatten = at_ := hre.trans hat
      rw [hfr, hat, hs2] at hsnoc
      rw [hs2] at hms
      rw [hfr, hat, hs2]
      have HLN := HLL.out
      rw [List.length_take] at hml
      have hsL := HSZ.out
      have HTRM : Hid (RowM 61 3 (.slice ta tn tc) tn (triV T) At) := by show RowM _ _ _ _ _ _; unfold TriM at htr; rwa [htn] at htr
      have HRF : Hid (rollF (qa + 1) (L.take k) = (m1, m2)) := by show _ = _; rw [← hm1, ← hm2]
      have HSN := Lib.hid hsnoc
      have HTT := Lib.hid hT
      have HTN := Lib.hid htn
      have HFR := Lib.hid hfr
      have HAT := Lib.hid hat
      have HS2' := Lib.hid hs2
      have HFL2 := Lib.hid hfl2
      have b3 : tn ≤ 1000 := by omega
      clear htr hm1 hm2 hsnoc hT htn hfr hat hs2 hfl2 hre hTl hml
      by_cases hlt : k < L.length
      · obtain ⟨gj, rfl⟩ : ∃ x, gk = x + 1 := ⟨gk - 1, by omega⟩
        have hko : k < out2.length := by rw [HO2.out]; omega
        obtain ⟨g, off, cap, hvv, hcap, hbc⟩ := HB3.out.at_ hko
        rw [HO2.out] at hvv hcap
        simp only [Value.slice.injEq] at hvv
        obtain ⟨rfl, -, rfl⟩ := hvv
        have hxk : (out2[k]'hko).1 = L[k] := by have := HM2.out; subst this; simp
        obtain ⟨x, hxd⟩ : ∃ x, x = L[k] := ⟨_, rfl⟩
        obtain ⟨p2, hp2⟩ : ∃ p2, (out2[k]'hko).2 = p2 := ⟨_, rfl⟩
        obtain ⟨-, c0, c1, c2, -⟩ := hHr.use hbc
        rw [hxk, ← hxd] at c0 c1
        rw [hp2] at c2
        have hbv : Pers P3 (fun w => BtV w (.agg #[.int .i64 x.b, .int .i64 x.e, p2]) x) := hbc.imp (fun w1 h => by
          obtain ⟨-, -, -, -, h5⟩ := h
          rw [hxd, ← hxk, ← hp2]
          exact ⟨_, rfl, h5⟩)
        obtain ⟨hxo, hxb⟩ := HOK.out x (by rw [hxd]; exact List.getElem_mem hlt)
        have hsk := sizes_take L k hlt
        rw [← hxd] at hsk
        have htkn := take_next L k hlt
        rw [← hxd] at htkn
        have hen1 : endOf (qb : Int) (L.take (k + 1)) = x.b + x.r.length := by rw [htkn, endOf_snoc]
        obtain ⟨nx, hnx⟩ : ∃ nx, szB x = nx := ⟨_, rfl⟩
        rw [hnx] at hsk
        have HXO := Lib.hid hxo
        have HXB := Lib.hid hxb
        have HXK := Lib.hid (show (out2[k]'hko).1 = x from hxk.trans hxd.symm)
        have HP2 := Lib.hid hp2
        have HBC := Lib.hid hbc
        have HBV := Lib.hid hbv
        have HR := Lib.hid hHr
        have HTK := Lib.hid htkn
        have HE1 := Lib.hid hen1
        have HNX' := Lib.hid hnx
        have j1 : (k : Int) < (n : Int) := by omega
        have j2 : (0 : Int) ≤ (k : Int) := by omega
        have b2 : s2 + nx ≤ 96000 := by omega
        have bq : (qa : Int) + 1 ≤ 1000 := by omega
        have HBVH := Lib.hid (hHr.use hbv)
        clear hHr hbc hbv hxk hxd hp2 htkn hen1 hnx hsk hxo hxb hsL
        go_wp2_with fail
        refine (rsize_any x HXO.out HXB.out _ _ HBVH.out).mono ?_
        rintro e w4 ⟨rfl, hb4⟩
        rw [HNX'.out]
        have hH4 := HR.out.below hb4 (Nat.le_refl _)
        obtain ⟨-, d0, d1, d2, -⟩ := hH4.use HBC.out
        rw [HXK.out] at d0 d1
        rw [HP2.out] at d2
        have HBV4 := Lib.hid (hH4.use HBV.out)
        have H4 := Lib.hid hH4
        clear hb4 hH4 c0 c1 c2
        by_cases hc1 : 0 < s2
        · have hc1' : (0 : Int) < (s2 : Int) := by omega
          by_cases hc2 : qa + 1 < s2 + nx
          · have hc2' : (qa : Int) + 1 < (s2 : Int) + (nx : Int) := by omega
            have HROLL : Hid (rollF (qa + 1) (L.take (k + 1)) = (m1 ++ [m2], [x])) := by
              show _ = _
              rw [HTK.out, rollF_snoc, HRF.out]
              unfold rollAdd
              rw [if_pos (by dsimp only; rw [HS2'.out, HNX'.out]; exact ⟨hc1, hc2⟩)]
            go_wp2_with (at_builtin; refine wpList_push_hp rfl _ _ _ rfl 61 _ 3 24 Tryz.underlying59 infoTri rfl (by omega) (.slice ta tn tc) tn (triV T) rfl H4.out HTRM.out #[.int .i64 fr, .int .i64 at_, .int .i64 s2] rfl rfl (by intro u hu; simp at hu; rcases hu with rfl | rfl | rfl <;> rfl) (by omega) (by omega) ?_)
            intro g7 c7 w7 A7 hr7 hH7
            obtain ⟨-, d0, d1, d2, -⟩ := hH7.use HBC.out
            rw [HXK.out] at d0 d1
            rw [HP2.out] at d2
            have HBV7 := Lib.hid (hH7.use HBV.out)
            have H7 := Lib.hid hH7
            have HR7 := Lib.hid hr7
            clear hH7 hr7
            go_wp2_with fail
            refine (rnext_any x (by have := HXO.out.b0; omega) (by have := HXO.out.b1; omega) (by have := HXO.out.n64; omega) _ _ HBV7.out).mono ?_
            rintro e w8 ⟨rfl, hb8⟩
            have H8 := Lib.hid (H7.out.below hb8 (Nat.le_refl _))
            clear hb8
            go_wp2_with fail
            go_roundg gj
            case measure => omega
            case rel =>
              refine ⟨k + 1, A7, by omega, by simp, ?_, ?_, by rw [HE1.out], ?_, H8.out⟩
              · rw [HROLL.out]; simp [sizes, HNX'.out]
              · rw [HROLL.out]; dsimp only; rw [HFL2.out]
              · rw [HROLL.out]; dsimp only; unfold TriM; rw [HSN.out, triV_app, List.length_append, HTN.out]; exact HR7.out
          · have hc2' : (s2 : Int) + (nx : Int) ≤ (qa : Int) + 1 := by omega
            have HROLL : Hid (rollF (qa + 1) (L.take (k + 1)) = (m1, m2 ++ [x])) := by
              show _ = _
              rw [HTK.out, rollF_snoc, HRF.out]
              unfold rollAdd
              rw [if_neg (by dsimp only; rw [HS2'.out, HNX'.out]; exact fun h => hc2 h.2)]
            go_wp2_with fail
            refine (rnext_any x (by have := HXO.out.b0; omega) (by have := HXO.out.b1; omega) (by have := HXO.out.n64; omega) _ _ HBV4.out).mono ?_
            rintro e w8 ⟨rfl, hb8⟩
            have H8 := Lib.hid (H4.out.below hb8 (Nat.le_refl _))
            clear hb8
            go_wp2_with fail
            go_roundg gj
            case measure => omega
            case rel =>
              refine ⟨k + 1, At, by omega, by simp, ?_, ?_, by rw [HE1.out], ?_, H8.out⟩
              · rw [HROLL.out]; dsimp only; rw [sizes_app, HS2'.out]; simp [sizes, HNX'.out]
              · rw [HROLL.out]; dsimp only; rw [HFR.out]
              · rw [HROLL.out]; dsimp only; unfold TriM; rw [HTT.out, HTN.out]; exact HTRM.out
        · have hc1' : ¬ (0 : Int) < (s2 : Int) := by omega
          have HROLL : Hid (rollF (qa + 1) (L.take (k + 1)) = (m1, m2 ++ [x])) := by
            show _ = _
            rw [HTK.out, rollF_snoc, HRF.out]
            unfold rollAdd
            rw [if_neg (by dsimp only; rw [HS2'.out]; exact fun h => hc1 h.1)]
          go_wp2_with fail
          refine (rnext_any x (by have := HXO.out.b0; omega) (by have := HXO.out.b1; omega) (by have := HXO.out.n64; omega) _ _ HBV4.out).mono ?_
          rintro e w8 ⟨rfl, hb8⟩
          have H8 := Lib.hid (H4.out.below hb8 (Nat.le_refl _))
          clear hb8
          go_wp2_with fail
          go_roundg gj
          case measure => omega
          case rel =>
            refine ⟨k + 1, At, by omega, by simp, ?_, ?_, by rw [HE1.out], ?_, H8.out⟩
            · rw [HROLL.out]; dsimp only; rw [sizes_app, HS2'.out]; simp [sizes, HNX'.out]
            · rw [HROLL.out]; dsimp only; rw [HFR.out]
            · rw [HROLL.out]; dsimp only; unfold TriM; rw [HTT.out, HTN.out]; exact HTRM.out
      · have hkn : L.take k = L := List.take_of_length_le (by omega)
        have hRF := HRF.out
        have hATE := HAT.out
        rw [hkn] at hRF hATE
        have HR := Lib.hid hHr
        have HTR2 := Lib.hid HTRI.out
        have hwant : triL (qb : Int) (stL (rollF (qa + 1) L)) = T ++ [(fr, at_, s2)] := by rw [hRF]; exact HSN.out
        have HW := Lib.hid hwant
        have HATE := Lib.hid hATE
        clear hHr hRF hwant hkn hATE
        go_wp2_with (at_builtin; refine wpList_push_hp rfl _ _ _ rfl 61 _ 3 24 Tryz.underlying59 infoTri rfl (by omega) (.slice ta tn tc) tn (triV T) rfl HR.out HTRM.out #[.int .i64 fr, .int .i64 at_, .int .i64 s2] rfl rfl (by intro u hu; simp at hu; rcases hu with rfl | rfl | rfl <;> rfl) (by omega) (by omega) ?_)
        intro g7 c7 w7 A7 hr7 hH7
        obtain ⟨T2, hT2⟩ : ∃ T2, T ++ [(fr, at_, s2)] = T2 := ⟨_, rfl⟩
        have hT2l : T2.length = tn + 1 := by rw [← hT2, List.length_append, HTN.out]; rfl
        have htr7 : TriM (.slice (some ⟨g7, 0, none⟩) (tn + 1) c7) T2 A7 := by unfold TriM; rw [hT2l, ← hT2, triV_app]; exact hr7
        have HT7 := Lib.hid htr7
        have HT2 := Lib.hid hT2
        have HT2L := Lib.hid hT2l
        have H7 := Lib.hid (hH7.perm (perm_mid A7 Ax M0))
        clear hr7 hH7 htr7 hT2 hT2l
        go_wp2_with fail
        refine (hsegs_ok HMx.out HOx.out.W H7.out).mono ?_
        rintro e w8 ⟨v8, A8, rfl, ht8, hH8⟩
        rw [HTR2.out, HW.out, HT2.out] at ht8
        obtain ⟨sa, sc, rfl⟩ := ht8.shape
        have HT8 := Lib.hid ht8
        have H8 := Lib.hid (hH8.perm (perm_mid A8 Ax (A7 ++ M0)))
        rw [HT2L.out]
        clear ht8 hH8
        go_wp2_with fail
        refine (hstart_ok HMx.out HOx.out.W H8.out).mono ?_
        rintro e w9 ⟨rfl, hH9⟩
        rw [HST.out]
        have H9 := Lib.hid hH9
        clear hH9
        go_wp2_with fail
        refine (hend_ok HMx.out HOx.out.W H9.out).mono ?_
        rintro e w10 ⟨rfl, hH10⟩
        rw [HEN.out, HATE.out]
        have H10 := Lib.hid (hH10.perm (perm_mid Ax A8 (A7 ++ M0)))
        clear hH10
        go_wp2_with fail
        go_loopg [18] (tn + 1) (fun m vi wr => ∃ k : Nat, k + m = tn + 1 ∧ vi = .int .i64 k ∧ Hp wr P3 (A8 ++ (Ax ++ (A7 ++ M0))))
        case atStart => exact ⟨0, by omega, rfl, H10.out⟩
        case round =>
          obtain ⟨j, hj, rfl, hHj⟩ := hrel
          by_cases hjt : j < tn + 1
          · obtain ⟨gj, rfl⟩ : ∃ x, gk = x + 1 := ⟨gk - 1, by omega⟩
            have hj2 : j < T2.length := by rw [HT2L.out]; exact hjt
            obtain ⟨g1, c1, hv1, hcc1, x0, x1, x2⟩ := HT8.out.get hHj hj2
            obtain ⟨g2, c2, hv2, hcc2, y0, y1, y2⟩ := HT7.out.get (hHj.perm (perm_t A8 Ax A7 M0)) hj2
            rw [HT2L.out] at hv1 hv2 hcc1 hcc2
            cases hv2
            simp only [Value.slice.injEq] at hv1
            obtain ⟨rfl, -, rfl⟩ := hv1
            obtain ⟨u0, hu0⟩ : ∃ u, (T2[j]).1 = u := ⟨_, rfl⟩
            obtain ⟨u1, hu1⟩ : ∃ u, (T2[j]).2.1 = u := ⟨_, rfl⟩
            obtain ⟨u2, hu2⟩ : ∃ u, (T2[j]).2.2 = u := ⟨_, rfl⟩
            rw [hu0] at x0 y0
            rw [hu1] at x1 y1
            rw [hu2] at x2 y2
            have j3 : (j : Int) < (tn : Int) + 1 := by omega
            have j4 : (0 : Int) ≤ (j : Int) := by omega
            have HJ := Lib.hid hHj
            clear hHj hu0 hu1 hu2
            go_wp2_with fail
            go_quiet (first | (rw [eqTri]; exact ⟨rfl, rfl⟩) | (simp only [eqTri, Result.andThen_ok]; rfl) | (simp only [eqTri, Result.andThen_ok, true_and]; rfl))
            have HJ2 := Lib.hid (HJ.out.drewN nq)
            go_wp2_with fail
            go_roundg gj
            case measure => omega
            case rel => exact ⟨j + 1, by omega, by simp, HJ2.out⟩
          · rw [← HM0.out] at hHj
            have hq := hHj.perm (perm_mid A8 Ax (A7 ++ (Adx ++ [])))
            have HJ := Lib.hid (hq.perm (List.Perm.append_left Ax ((by have := perm_mid (A8 ++ A7) Adx []; simpa [List.append_assoc] using this : List.Perm (A8 ++ (A7 ++ (Adx ++ []))) (Adx ++ (A8 ++ (A7 ++ [])))))))
            clear hq
            clear hHj
            go_wp2_with fail
            refine (all10_ok HC3.out HMx.out HOx.out HNx.out HDx.out (by have := HSZ.out; omega) (by have := HLL.out; omega) HJ.out).mono ?_
            rintro e w11 ⟨v11, o11, P11, rfl, hs11, hm11, hb11, hH11⟩
            have r1 := hH11.use hb11.read
            have r2 := hH11.use (HB3.out.sub hs11).read
            rw [hm11] at r1
            rw [HM2.out] at r2
            obtain ⟨ga, gc, hgv, -⟩ := r1.shape
            rw [HLL.out] at hgv
            subst hgv
            have R1 := Lib.hid r1
            have R2 : Hid (BtsR w11 (.slice va n vc) L) := r2
            have H11 := Lib.hid hH11
            have HS11 := Lib.hid (HS3.out.trans hs11)
            clear r1 r2 hb11 hm11 hH11 hs11
            go_wp2_with fail
            refine (joined10_ok R1.out R2.out (by have := HLL.out; omega) (fun y hy => (HOK.out y hy).1.sm)).mono ?_
            rintro e w12 ⟨rfl, hb12⟩
            have HB12 := Lib.hid ((H11.out.below hb12 (Nat.le_refl _)).to_below HS11.out)
            clear hb12
            go_wp2_with fail
            go_ret
            exact ⟨rfl, HB12.out⟩
end
end Go.Proofs.YtepmblomgmghcaaGreatDoor.Sg

/-! Cy -/
namespace Go.Proofs.YtepmblomgmghcaaGreatDoor.Sg
open Go.RowKit Er

def l12 : List Nat := [0, 1, 2, 3, 4, 5, 6, 7, 8, 9, 12, 14]
theorem l12_all : ∀ i, i < 10 ∨ i = 14 → i ∈ l12 := by
  intro i hi
  rcases hi with hi | rfl
  · have : ∀ j : Fin 10, j.val ∈ l12 := by decide
    exact this ⟨i, hi⟩
  · decide
theorem l19_all2 : ∀ i, i < 10 ∨ i = 14 → i ∈ List.range 19 := by intro i hi; rw [List.mem_range]; omega

theorem tab_of2 {rest : List (String × DataW Unit)} {W : World} (h : laidMet Tryz.prog (("math/bits.deBruijn32tab", Rows.laid_math_bits_deBruijn32tab) :: ("math/bits.deBruijn64tab", Rows.laid_math_bits_deBruijn64tab) :: ("internal/strconv.uint64pow10", Rows.laid_internal_strconv_uint64pow10) :: rest) W) :
    Lib.TabIs Tryz.prog W "internal/strconv.uint64pow10" .u64 Lib.pow10Tab ∧ laidMet Tryz.prog rest W := by
  have h2 := laidMet.tail (laidMet.tail h)
  refine ⟨?_, laidMet.tail h2⟩
  exact Lib.tabIs_of_head (zs := Lib.pow10Tab) (k := .u64) (g := 19) (t := 299) (e := 157) (n := 20) (by kernel_rfl) (by kernel_rfl) (by kernel_rfl) (by kernel_rfl) (by kernel_rfl) (by kernel_rfl) h2
theorem hlaid12 {W : World} (h : laidMet Tryz.prog Rows.hotSizesRow.laid W) (hsz : gmax ≤ W.heap.size) : Lib.TabIs Tryz.prog W "internal/strconv.uint64pow10" .u64 Lib.pow10Tab ∧ Errs l12 W (errAt W) W.heap.size := by
  obtain ⟨h1, h2⟩ := tab_of2 h
  exact ⟨h1, errs_of_laid l12 (by decide) h2 hsz⟩
theorem hlaid19 {W : World} (h : laidMet Tryz.prog Rows.hotReadsRow.laid W) (hsz : gmax ≤ W.heap.size) : Lib.TabIs Tryz.prog W "internal/strconv.uint64pow10" .u64 Lib.pow10Tab ∧ Errs (List.range 19) W (errAt W) W.heap.size := by
  obtain ⟨h1, h2⟩ := tab_of2 h
  exact ⟨h1, errs_of_laid (List.range 19) (by decide) h2 hsz⟩

end Go.Proofs.YtepmblomgmghcaaGreatDoor.Sg

/-! HotRollsRow -/
namespace Go.Proofs.YtepmblomgmghcaaGreatDoor.hotRolls
open Go.ChangeShapes Go.WideShapes Go.ChangeAt Go.RowKit
open Go.Proofs.YtepmblomgmghcaaGreatDoor.Sg
set_option linter.unusedVariables false

theorem own : ownKnob Tryz.prog.godebug = none := by kernel_rfl
theorem laidOut : laidOutB Tryz.prog = true := by kernel_rfl

theorem door_met (os : Os) (args : Array Value) : laidMetH Tryz.prog Rows.hotRollsRow.laid ((World.doorLaid Tryz.prog 400 os).forCall (fun _ _ => 0) ⟨#[], args, []⟩).memory :=
  laidMetH_of_parts3 (fuel := 8) (laidMet_of_run' 8 (by kernel_rfl) (by kernel_rfl)) (by kernel_rfl) (by kernel_rfl)

theorem reads (os : Os) {H : Type} (enc : TypeId × Value → H) : ∃ places, DataW.whole enc Tryz.prog ((World.doorLaid Tryz.prog 400 os).forCall (fun _ _ => 0) ⟨#[], #[.slice none 0 0, .int .i64 0, .int .i64 0], []⟩).memory Tryz.f7.params.toList Rows.hotRollsSpec.vars false (#[.slice none 0 0, .int .i64 0, .int .i64 0] : Array Value).toList 8 = some ([.nil, .lit (.int .i64 0), .lit (.int .i64 0)], [], places) :=
  ⟨[], by kernel_rfl⟩

set_option maxRecDepth 100000 in
theorem contract (H : Type) (enc : TypeId × Value → H) (W : World) (base : Nat) (args : Array Value) (ds gs : List (DataW H)) (before : List MemPlace)
    (hval0 : ∀ (j : Nat) t v, Tryz.f7.params[j]? = some t → args[j]? = some v → Value.okWide Tryz.prog W .any base t v)
    (hW : DataW.Whole enc Tryz.prog Tryz.f7.params.toList Rows.hotRollsSpec.vars false W args.toList ds gs before) (hL : laidMetH Tryz.prog Rows.hotRollsRow.laid W) (hsh : W.ShapedOpen Tryz.prog) :
    Calls Tryz.prog 7 args W fun e W' => ∃ v, e = .returned v ∧ Rows.hotRollsSpec.post enc Tryz.prog Tryz.f7 false true false false W args v W' := by
  have hval : ∀ (j : Nat) t v, Tryz.f7.params[j]? = some t → args[j]? = some v → Value.okWide Tryz.prog W .any base t v := hval0
  have hW' := hW
  obtain ⟨p, q, hA0, hV, rfl, hfz, hnd⟩ := hW
  have hA : DataW.TrodAll enc Tryz.prog W 0 (fun _ => true) true Tryz.f7.params.toList args.toList ds p := hA0
  rw [Tryz.params7] at hA hval
  obtain ⟨v0, vs0, d0, ds0, p0, q0, hargs, rfl, rfl, h0, r0⟩ := trodAll_cons hA
  obtain ⟨v1, vs1, d1, ds1, p1, q1, rfl, rfl, rfl, h1, r1⟩ := trodAll_cons r0
  obtain ⟨v2, vs2, d2, ds2, p2, q2, rfl, rfl, rfl, h2, r2⟩ := trodAll_cons r1
  obtain ⟨rfl, rfl, rfl⟩ := trodAll_nil r2
  obtain rfl : args = #[v0, v1, v2] := by cases args; simp_all
  obtain ⟨rfl, rfl⟩ := trodVars_none hV
  obtain ⟨a0, len0, cap0, rfl⟩ := okWide_slice Tryz.underlying50 (hval 0 50 v0 rfl rfl)
  have k0 := h0
  have lt0 : ∀ x ∈ p0, x.block < W.heap.size := by obtain ⟨m, hm⟩ := k0; exact DataW.trod_lt m _ _ _ hm
  obtain ⟨z0, w0⟩ : ∃ zs, IsRow W a0 len0 cap0 zs := by
    obtain ⟨fuel, hf⟩ := h0
    rcases open_ints Tryz.underlying50 Tryz.underlying3 (by kernel_rfl) hf with ⟨hcs, _⟩ | ⟨x, l, c, zs, hcs, _, hl, hm, hz, _, hcell, hwz⟩
    · simp [Value.cells] at hcs
      obtain ⟨rfl, rfl, rfl⟩ := hcs
      exact ⟨[], .inl ⟨rfl, rfl, rfl, rfl⟩⟩
    · simp [Value.cells] at hcs
      obtain ⟨rfl, rfl, rfl⟩ := hcs
      exact ⟨zs, .inr ⟨_, rfl, hl, hm, by simpa using hz, hcell, hwz⟩⟩
  obtain ⟨a1, rfl, rfl, rfl, w1⟩ := open_int Tryz.underlying3 (hval 1 3 v1 rfl rfl) h1
  obtain ⟨a2, rfl, rfl, rfl, w2⟩ := open_int Tryz.underlying2 (hval 2 2 v2 rfl rfl) h2
  have hL0 := hL
  rw [MakeChecks.laidMetH_plain _ _ _ (by kernel_rfl)] at hL0
  obtain ⟨hT, hE⟩ := hlaid12 (W := W) hL0 (Er.gmax_le hsh)
  clear hA0 hval0
  refine (hotrolls_all a0 len0 cap0 z0 a1 a2 W w0 l12_all hE hT).mono fun e W' ⟨he, bel⟩ => ?_
  subst he
  exact ⟨_, rfl, _, _, _, [], _, [], hW', trodAll_mk1 (shut_bool Tryz.underlying4 _), (trodAll_cons_mk (Below.trod laidOut (by kernel_rfl) (of_decide_eq_true (by kernel_rfl)) k0 bel lt0) (trodAll_cons_mk (shut_int Tryz.underlying3 w1) (trodAll_cons_mk (shut_int Tryz.underlying2 w2) trodAll_mk0))), rfl, bel.frame _, fun h => by cases h⟩

set_option maxRecDepth 100000 in
theorem lifted (os : Os) (started : os.Started) (H : Type) (enc : TypeId × Value → H) (F : Stop.Interp) :
    ReturnsInHanded {} Tryz.checked os 7 .any ((OpenSpec.ofChange Rows.hotRollsSpec).preRow enc Tryz.prog Tryz.f7 Rows.hotRollsRow.domain false Rows.hotRollsRow.laid) (((OpenSpec.ofChange Rows.hotRollsSpec).at F).post enc Tryz.prog Tryz.f7 false true false false) := by
  obtain ⟨places, hx⟩ := reads os enc
  refine returnsInHanded_of_row (C := Tryz.checked) (s := OpenSpec.ofChange Rows.hotRollsSpec) own started (by kernel_rfl) Tryz.func7
    (witness_row_atRef (enc := enc) (C := Tryz.checked) false (World.doorLaid Tryz.prog 400 os) #[.slice none 0 0, .int .i64 0, .int .i64 0] rfl (by kernel_rfl) (by kernel_rfl) (by kernel_rfl)
      (OpenSpec.preRow_of_cond 8 hx (by kernel_rfl) (fun k hk => by cases hk) (by kernel_rfl) (door_met os _))) ?_
  intro W base args ds gs before hval hW _ _ _ hL hsh _
  exact contract H enc W base args ds gs before hval hW hL hsh

theorem hunf : Tryz.prog.unfollowed 7 = true := by kernel_rfl
theorem hinp : Tryz.prog.inPlace 7 = Rows.hotRollsRow.inPlace := by kernel_rfl
theorem hnam : Tryz.prog.varsNamed 7 = Rows.hotRollsRow.named := by kernel_rfl
theorem hrec : Tryz.prog.recurses 7 = true := by unfold Program.recurses; rw [hunf]; rfl
theorem closed : joinedFacts Tryz.prog 7 Tryz.f7 (OpenSpec.ofChange Rows.hotRollsSpec).bare Rows.hotRollsRow = true := by unfold joinedFacts; rw [hinp, hunf, hrec, hnam]; kernel_rfl

theorem said : Rows.HotRollsSaid :=
  OpenClaim.holds_of_cond 7 Tryz.f7 rfl rfl rfl rfl rfl rfl rfl ⟨rfl, rfl, rfl, rfl, rfl⟩ rfl rfl rfl rfl rfl (by kernel_rfl) Tryz.func7 closed
    (of_decide_eq_true (by kernel_rfl)) (by unfold Func.isWrapper; rw [if_neg (of_decide_eq_false (by kernel_rfl))]; exact ⟨rfl, rfl⟩)
    (fun os started H enc _ F => by rw [OpenClaim.pre_eq_preRow]; exact lifted os started H enc F)

theorem plain (f : FuncId) (fn : Func) (hf : Tryz.pinned.checked.prog.funcNamed "cordwood/cordwoodlaw10.HotRolls" = some f) (hfn : Tryz.pinned.checked.prog.funcs[f]? = some fn) :
    true = Tryz.pinned.checked.prog.looks [] ∧ ∀ (j : Nat) t, fn.params[j]? = some t → Tryz.pinned.checked.prog.wantsStandIn t = false := by
  obtain rfl : f = 7 := Option.some.inj ((show Tryz.prog.funcNamed "cordwood/cordwoodlaw10.HotRolls" = some 7 by kernel_rfl).symm.trans hf) |>.symm
  obtain rfl : fn = Tryz.f7 := (Option.some.inj (Tryz.func7.symm.trans hfn)).symm
  refine ⟨by kernel_rfl, fun j t ht => ?_⟩
  rw [Tryz.params7] at ht
  have hm := Array.mem_of_getElem? ht
  have ht2 : t = 50 ∨ t = 3 ∨ t = 2 := by simpa using hm
  rcases ht2 with rfl | rfl | rfl
  · exact (show Tryz.prog.wantsStandIn 50 = false by kernel_rfl)
  · exact (show Tryz.prog.wantsStandIn 3 = false by kernel_rfl)
  · exact (show Tryz.prog.wantsStandIn 2 = false by kernel_rfl)

/-- THE CARD -/
theorem card : Rows.HotRollsCardSaid :=
  Claim7.holds_tied_plain_at .later [] _ _ _ _ said (fun _ h => by cases h) (by kernel_rfl) (fun _ h => by cases h) hotRolls_row_tie rfl ⟨rfl, rfl⟩ (by kernel_rfl) rfl plain (by kernel_rfl)
#print axioms card
end Go.Proofs.YtepmblomgmghcaaGreatDoor.hotRolls
