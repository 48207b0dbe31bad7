/- cordwoodlaw10.all, joined; Row's batches of at most thirty numbers; the segments' triples. What a read of a segment tells, in plain words (for HotReads). -/
import Derived.Test.YthocnhdefnbchaaGreatDoorMl
import Derived.Test.YthocnhdefnbchaaGreatDoorMg
import Derived.Test.YthocnhdefnbchaaGreatDoorMi
import Derived.Test.YthocnhdefnbchaaGreatDoorMe
import Derived.ChangeKeysEq

/-! Hr -/
namespace Go.Proofs.YthocnhdefnbchaaGreatDoor.Sg
open Go.RowKit Er Go.Maps

theorem row_rn (every : Nat) : ∀ (l : List Int) (i : Nat) (a : Int), ∀ x, x ∈ rowGo every l i a → x.r.length ≤ 5
  | [], _, _, x, hx => by cases hx
  | s :: l, i, a, x, hx => by
    rcases List.mem_cons.1 hx with rfl | hx
    · rw [rBt_len]; exact (rN_pos s).2
    · exact row_rn every l _ _ x hx
theorem szB_le5 (x : Bt) (h : BtOk x) (hr : x.r.length ≤ 5) : szB x ≤ 3200 := by
  have h0 := batB_len x
  have h1 := bodyR_len (t0 x) x.r (t0_in x h) h.rs
  have h2 := vput_len64 (zig (t0 x)) (by have := t0_in x h; have := zig_lt (t0 x) (by omega) (by omega); omega)
  have h3 : (bodyB x).length ≤ 3100 := by simp [bodyB, headB, leB_len]; omega
  unfold szB; omega
theorem row30 (every : Nat) (xs : List Int) (base : Nat) (hb : base ≤ 1073741824) (hx : xs.length ≤ 30) : Chain base 0 (rowGo every xs 0 base) ∧ (∀ x, x ∈ rowGo every xs 0 base → BtOk x ∧ BtBy x) ∧ sizes (rowGo every xs 0 base) ≤ 96000 := by
  have hok := row_ok every xs 0 base (by omega) (by omega) (by omega)
  refine ⟨row_chain every xs 0 base 0 (by have := (rEp_mono every 0).2; omega), hok, ?_⟩
  have h : ∀ L : List Bt, (∀ x, x ∈ L → szB x ≤ 3200) → sizes L ≤ L.length * 3200 := by
    intro L
    induction L with
    | nil => intro _; simp [sizes]
    | cons x L ih =>
      intro h
      have h1 := h x List.mem_cons_self
      have h2 := ih (fun y hy => h y (List.mem_cons_of_mem _ hy))
      simp only [sizes, List.map_cons, List.sum_cons, List.length_cons] at h2 ⊢
      omega
  have h1 := h _ (fun x hx => szB_le5 x (hok x hx).1 (row_rn every xs 0 base x hx))
  rw [row_len] at h1
  omega

theorem row_m {P : Pm} {F : Mm} {w : World} (hH : Hp w P F) (a : Option Addr) (xs : List Int) (c n : Nat) (hn : xs.length = n) (hr : Pers P (fun w => IntsR w a xs)) (every : Nat) (he : every ≤ 1000000) (hx : n ≤ 1000000) (base : Int) (h0 : 0 ≤ base) (h1 : base ≤ 1099511627776) :
    Calls Tryz.prog 25 #[.int .i64 base, .slice a n c, .int .i64 every] w fun e w' => ∃ v P' out, e = .returned v ∧ Sub P P' ∧ out.map (·.1) = rowGo every xs 0 base ∧ BtsP P' v out ∧ Hp w' P' F := by
  subst hn
  exact row_p hH a xs c hr every he hx base h0 h1

/-- Two triples alike are equal. -/
theorem eqTri (u0 u1 u2 : Int) (w : World) : Sem.run Tryz.prog (Op.equalIn 10000 61 (.agg #[.int .i64 u0, .int .i64 u1, .int .i64 u2]) (.agg #[.int .i64 u0, .int .i64 u1, .int .i64 u2])) w = .ok true w := by
  obtain ⟨i, hi⟩ := info_of_underlying Tryz.underlying2
  have h := run_equalIn_array (P := Tryz.prog) w 9999 (t := 61) #[.int .i64 u0, .int .i64 u1, .int .i64 u2] #[.int .i64 u0, .int .i64 u1, .int .i64 u2] (n := 3) (e := 2) Tryz.underlying61 hi
  have hc : Tryz.prog.cellsOf 2 = 1 := by kernel_rfl
  rw [h, hc, show List.range 3 = [0, 1, 2] from rfl]
  simp [Op.eqItems, part, go_sem]

/-- Triples of lists of batches one behind the other. -/
def triL : Int → List (List Bt) → List Tri
  | _, [] => []
  | b, m :: ms => (b, endOf b m, sizes m) :: triL (endOf b m) ms
theorem triL_snoc : ∀ (ms : List (List Bt)) (b : Int) (m : List Bt), triL b (ms ++ [m]) = triL b ms ++ [(endOf b ms.flatten, endOf b (ms ++ [m]).flatten, sizes m)]
  | [], b, m => by simp [triL, endOf]
  | x :: ms, b, m => by
    show (b, endOf b x, sizes x) :: triL (endOf b x) (ms ++ [m]) = _
    rw [triL_snoc ms]
    simp only [List.flatten_cons, List.cons_append, endOf_app, triL, List.flatten_append]
theorem triL_len : ∀ (ms : List (List Bt)) (b : Int), (triL b ms).length = ms.length
  | [], _ => rfl
  | m :: ms, b => by simp [triL, triL_len ms]
theorem lk_tri : ∀ (L : List (Nat × Sg)) (b : Int), Lk b (L.map (·.2)) → L.map (fun p => triG p.2) = triL b (L.map (·.2.l))
  | [], _, _ => rfl
  | p :: L, b, ⟨h1, _, h3⟩ => by
    have := lk_tri L _ h3
    rw [List.map_cons, List.map_cons, this]
    show (triG p.2 :: triL p.2.end_ (L.map (·.2.l))) = (b, endOf b p.2.l, sizes p.2.l) :: triL (endOf b p.2.l) (L.map (·.2.l))
    rw [← h1, ← end_eq]; rfl

section
variable {S : List Nat} {E : Nat → Addr} {B : Nat} {P : Pm} {h : Nat} {H : Hl} {D : Dk} {A Ad F : Mm} {w : World} {b0 : Int} {l : List Bt}

/-- Where one stands behind so many segments: at the end, or ahead of a segment that has batches. -/
theorem HotOn.upto (hO : HotOn D H b0 l) (k : Nat) (hk : k ≤ H.L.length) :
    (endOf b0 ((H.L.take k).map (·.2.l)).flatten = endOf b0 l ∧ ((H.L.take k).map (·.2.l)).flatten = l) ∨
    ∃ (hk : k < H.L.length), endOf b0 ((H.L.take k).map (·.2.l)).flatten < endOf b0 l ∧ ((H.L[k]).2.base : Int) = endOf b0 ((H.L.take k).map (·.2.l)).flatten ∧ (H.L[k]).2.l ≠ [] := by
  by_cases hkn : k < H.L.length
  · have hsp : H.L = H.L.take k ++ ((H.L[k]).1, (H.L[k]).2) :: H.L.drop (k + 1) := HlM.nth k hkn
    obtain ⟨h1, h2, h3, h4, h5⟩ := hO.split hsp
    by_cases he : (H.L[k]).2.l = []
    · left
      have hd : H.L.drop (k + 1) = [] := Classical.byContradiction fun hd => by
        have hk2 := hO.lk
        rw [hsp, List.map_append, List.map_cons] at hk2
        exact (hk2.app.2.1 (by simpa using hd)).1 he
      rw [hd, he] at h5
      have h6 : ((H.L.take k).map (·.2.l)).flatten = l := by rw [h5]; simp
      exact ⟨by rw [h6], h6⟩
    · right
      refine ⟨hkn, ?_, h2, he⟩
      have hr : ∀ x, x ∈ ((H.L.drop (k + 1)).map (·.2.l)).flatten → 1 ≤ x.r.length := fun x hx => (hO.ok x (by rw [h5]; simp only [List.mem_append]; exact .inr (.inr hx))).1.n1
      have hg := chain_ge _ _ _ h4 hr
      have hs := hO.segend (p := ((H.L[k]).1, (H.L[k]).2)) (show H.L[k] ∈ H.L from List.getElem_mem hkn)
      have hl : 0 < (H.L[k]).2.l.length := List.length_pos_iff.2 he
      have e1 : endOf b0 l = endOf (H.L[k]).2.end_ ((H.L.drop (k + 1)).map (·.2.l)).flatten := by
        conv => lhs; rw [h5, endOf_app, endOf_app, ← h2, ← end_eq]
      rw [e1, ← h2]
      dsimp only at hs
      omega
  · left
    have e : H.L.take k = H.L := List.take_of_length_le (by omega)
    rw [e, hO.fl]
    exact ⟨rfl, rfl⟩
theorem perm_t (A B C E : Mm) : List.Perm (A ++ (B ++ (C ++ E))) (C ++ (A ++ (B ++ E))) := by
  have := perm_mid (A ++ B) C E
  simpa [List.append_assoc] using this

/-- What holds at the head of all's loop. -/
def All10Rel (P : Pm) (F A Ad : Mm) (H : Hl) (b0 : Int) (m : Nat) (vo va : Value) (w : World) : Prop :=
  ∃ (k : Nat) (P' : Pm) (out : List (Bt × Value)) (Ao : Mm), k + m = H.L.length ∧ va = .int .i64 (endOf b0 ((H.L.take k).map (·.2.l)).flatten) ∧ Sub P P' ∧ BtsM P' vo ((H.L.take k).map (·.2.l)).flatten out Ao ∧ Hp w P' (A ++ (Ad ++ (Ao ++ F)))

set_option maxRecDepth 100000 in
set_option maxHeartbeats 2000000 in
theorem all10_ok (C : Ctx S E B P) (hM : HlM h H A) (hO : HotOn D H b0 l) (hne : H.L ≠ []) (hD : DkM P H.d D Ad) (hsz : sizes l ≤ 1048576) (hll : l.length ≤ 1000) (hH : Hp w P (A ++ (Ad ++ F))) :
    Calls Tryz.prog 41 #[ptr h] w fun e w' => ∃ v out P', e = .returned (.tuple #[v, .bool true]) ∧ Sub P P' ∧ out.map (·.1) = l ∧ BtsP P' v out ∧ Hp w' P' (A ++ (Ad ++ F)) := by
  have hst := hO.hstart hne
  have hen := hO.hend hne
  have HST := Lib.hid hst
  have HEN := Lib.hid hen
  have HM := Lib.hid hM
  have HO := Lib.hid hO
  have HD := Lib.hid hD
  have H0 := Lib.hid hH
  have HSZ := Lib.hid hsz
  clear hst hen hM hO hD hH hsz hne
  obtain ⟨en, hen2⟩ : ∃ en, endOf b0 l = en := ⟨_, rfl⟩
  go_enter Tryz.func41, Tryz.ntmps41
  go_wp2_with fail
  refine (hstart_ok HM.out HO.out.W H0.out).mono ?_
  rintro e w1 ⟨rfl, hH1⟩
  rw [HST.out]
  have H1 := Lib.hid hH1
  clear hH1
  go_wp2_with fail
  go_loopg [4, 5] H.L.length (fun m vo va wr => All10Rel P F A Ad H b0 m vo va wr)
  case atStart => exact ⟨0, P, [], [], by omega, rfl, Sub.refl _, BtsM.nil P, H1.out⟩
  case round =>
    obtain ⟨k, P1, out, Ao, hk, rfl, hs1, hB, hHr⟩ := hrel
    obtain ⟨va, vc, rfl⟩ := hB.row.shape
    rcases HO.out.upto k (by omega) with ⟨heq, hfl⟩ | ⟨hkn, hlt, hbase, hgl⟩
    · rw [heq]
      have HR := Lib.hid hHr
      have HB := Lib.hid hB
      have HS1 := Lib.hid hs1
      have HFL := Lib.hid hfl
      rw [hen2]
      rw [hfl]
      clear hHr hB hs1 hfl heq
      go_wp2_with fail
      refine (hend_ok HM.out HO.out.W HR.out).mono ?_
      rintro e w2 ⟨rfl, hH2⟩
      rw [HEN.out, hen2]
      have H2 := Lib.hid hH2
      clear hH2
      go_wp2_with fail
      go_ret2
      obtain ⟨P2, hs2, hb2, hH3⟩ := HB.out.seal (H2.out.perm (perm_t A Ad Ao F))
      have hmm := HB.out.map.trans HFL.out
      rw [HFL.out] at hb2
      exact ⟨.slice va l.length vc, out, P2, rfl, HS1.out.trans hs2, hmm, hb2, hH3⟩
    · obtain ⟨gj, rfl⟩ : ∃ x, gk = x + 1 := ⟨gk - 1, by omega⟩
      rw [hen2] at hlt
      have hsp : H.L = H.L.take k ++ ((H.L[k]).1, (H.L[k]).2) :: H.L.drop (k + 1) := HlM.nth k hkn
      have hch := HO.out.chain hsp
      have hgm : ((H.L[k]).1, (H.L[k]).2) ∈ H.L := (show H.L[k] ∈ H.L from List.getElem_mem hkn)
      have hse := HO.out.segend hgm
      have hsg := sum_sub H.L _ hgm
      rw [HO.out.fl] at hsg
      have hokG := (HO.out.sg _ hgm).1.ok
      have hbyG := (HO.out.sg _ hgm).1.by_
      have htk : ((H.L.take (k + 1)).map (·.2.l)).flatten = ((H.L.take k).map (·.2.l)).flatten ++ (H.L[k]).2.l := by rw [take_next H.L k hkn]; simp only [List.map_append, List.map_cons, List.map_nil, List.flatten_append, List.flatten_cons, List.flatten_nil, List.append_nil]
      have hlen2 : ((H.L.take k).map (·.2.l)).flatten.length + (H.L[k]).2.l.length ≤ 1000 := by
        have h5 := (HO.out.split hsp).2.2.2.2
        have := congrArg List.length h5
        simp only [List.length_append] at this
        omega
      obtain ⟨s, hs⟩ : ∃ s, (H.L[k]).1 = s := ⟨_, rfl⟩
      obtain ⟨G, hG⟩ : ∃ G, (H.L[k]).2 = G := ⟨_, rfl⟩
      rw [hG] at hgl hbase hch hse hsg hokG hbyG htk hlen2
      rw [hs, hG] at hsp
      try dsimp only at hse hsg hokG hbyG
      obtain ⟨g0, x, hgx⟩ : ∃ g0 x, G.l = g0 ++ [x] := by
        rcases snoc_cases G.l with h0 | h0
        · exact absurd h0 hgl
        · exact h0
      have hxo : BtOk x := hokG x (by rw [hgx]; simp)
      have hend2 : endOf b0 ((H.L.take (k + 1)).map (·.2.l)).flatten = x.b + x.r.length := by rw [htk, hgx, ← List.append_assoc, endOf_snoc]
      have hgl1 : 0 < G.l.length := List.length_pos_iff.2 hgl
      have hall : rdGo G.base 1048576 G.l [] 0 = G.l := rdGo_all G.base 1048576 G.l [] 0 _ _ hch (Int.le_refl _) (fun y hy => (hokG y hy).n1) (by have := HSZ.out; omega)
      obtain ⟨P0, hP0⟩ : ∃ z, ((H.L.take k).map (·.2.l)).flatten = z := ⟨_, rfl⟩
      rw [hP0] at hlt hB hbase htk hlen2
      rw [← hbase] at hlt
      rw [hP0, ← hbase]
      have hss : G.base < G.end_ := by omega
      have HR := Lib.hid (hHr)
      have HB := Lib.hid hB
      have HS1 := Lib.hid hs1
      have HALL := Lib.hid hall
      have HSP := Lib.hid hsp
      have HTK := Lib.hid htk
      have HGX := Lib.hid hgx
      have HE2 := Lib.hid hend2
      have HXO := Lib.hid hxo
      have HLE := Lib.hid hlen2
      have HP0 := Lib.hid hP0
      clear hHr hB hs1 hall hsp htk hgx hend2 hxo hlen2 hch hgm hsg hokG hbyG hG hs hbase hP0
      go_wp2_with fail
      refine (hend_ok HM.out HO.out.W HR.out).mono ?_
      rintro e w2 ⟨rfl, hH2⟩
      rw [HEN.out, hen2]
      have H2 := Lib.hid hH2
      clear hH2
      go_wp2_with fail
      refine (hread_seg (C.sub HS1.out) HM.out HO.out (HD.out.sub HS1.out) HSP.out G.base 1048576 (Int.le_refl _) hss (by decide) (by decide) H2.out).mono ?_
      rintro e w3 ⟨v3, out3, P3, rfl, hs3, hm3, hb3, hH3⟩
      rw [HALL.out] at hm3
      obtain ⟨sa, sc, rfl, hsc⟩ := hb3.shape
      have hol : out3.length = G.l.length := by rw [← hm3, List.length_map]
      rw [hol] at hb3 hsc ⊢
      have hj : G.l.length - 1 < out3.length := by omega
      obtain ⟨g, off, cap, hvv, hcap, hbc⟩ := hb3.at_ hj
      have hx3 : (out3[G.l.length - 1]'hj).1 = x := by
        have h1 : (out3.map (·.1))[G.l.length - 1]? = some x := by rw [hm3, HGX.out]; simp
        rw [List.getElem?_map, List.getElem?_eq_getElem hj] at h1
        simpa using h1
      have H3 := Lib.hid (hH3.perm (perm_t A Ad Ao F))
      have HB3 := Lib.hid hb3
      have HS3 := Lib.hid hs3
      have HBC := Lib.hid hbc
      have HM3 := Lib.hid hm3
      have HX3 := Lib.hid hx3
      have HOL := Lib.hid hol
      have hne3 : (G.l.length : Int) ≠ 0 := by omega
      simp only [hol] at hvv
      simp only [Value.slice.injEq] at hvv
      obtain ⟨rfl, -, rfl⟩ := hvv
      obtain ⟨n3, hn3⟩ : ∃ n, G.l.length = n + 1 := ⟨G.l.length - 1, by omega⟩
      rw [hn3] at HB3 HOL hsc ⊢
      have HN3 := Lib.hid hn3
      have hnb : n3 ≤ 1000 := by have := HLE.out; omega
      clear hH3 hs3 hb3 hbc hm3 hx3 hne3 hol
      go_wp2_with (at_builtin; refine wpList_app_bts rfl _ _ rfl (.slice va P0.length vc) P0 out rfl (HB.out.sub HS3.out) (.slice (some ⟨g, off, none⟩) (n3 + 1) sc) out3 rfl HB3.out H3.out (by have := HLE.out; rw [HOL.out]; omega) ?_)
      intro v4 w4 A4 hbm4 hH4
      obtain ⟨ya, yc, rfl⟩ := hbm4.row.shape
      obtain ⟨-, c0, c1, c2, hrc⟩ := hH4.use HBC.out
      have hbv : BtV w4 (.agg #[.int .i64 x.b, .int .i64 x.e, (out3[G.l.length - 1]'hj).2]) x := ⟨_, rfl, by have := hrc; rwa [HX3.out] at this⟩
      rw [HX3.out] at c0 c1
      obtain ⟨p2, hp2⟩ : ∃ p2, (out3[G.l.length - 1]'hj).2 = p2 := ⟨_, rfl⟩
      rw [hp2] at c2 hbv
      rw [HN3.out, show n3 + 1 - 1 = n3 from rfl] at c0 c1 c2
      have H4 := Lib.hid hH4
      have HBM4 := Lib.hid hbm4
      clear hH4 hbm4 hrc hp2
      go_wp2_with fail
      refine (rnext_any x (by have := HXO.out.b0; omega) (by have := HXO.out.b1; omega) (by have := HXO.out.n64; omega) _ _ hbv).mono ?_
      rintro e w5 ⟨rfl, hb5⟩
      have H5 := Lib.hid (H4.out.below hb5 (Nat.le_refl _))
      clear hb5
      go_wp2_with fail
      go_roundg gj
      case measure => omega
      case rel =>
        refine ⟨k + 1, P3, out ++ out3, A4, by omega, by rw [HE2.out], HS1.out.trans HS3.out, ?_, ?_⟩
        · rw [HTK.out, ← HM3.out]; have := HBM4.out; rwa [List.length_append, List.length_map] at this
        · have := perm_mid A4 (A ++ Ad) F
          exact H5.out.perm (by simpa [List.append_assoc] using this)

theorem joined10_ok {w : World} {v1 v2 : Value} {L : List Bt} (h1 : BtsR w v1 L) (h2 : BtsR w v2 L) (hl : L.length ≤ 1000000000) (hs : ∀ x, x ∈ L → BtSm x) :
    Calls Tryz.prog 42 #[v1, v2] w fun e w' => e = .returned (.bool true) ∧ Below w.heap.size w w' := by
  go_enter Tryz.func42, Tryz.ntmps42
  go_wp2_with fail
  refine (samebatches_ok h1 h2 hl hs).mono ?_
  rintro e w1 ⟨rfl, hb⟩
  have HB := Lib.hid hb
  clear hb
  go_wp2_with fail
  go_ret
  exact ⟨rfl, HB.out⟩
end
end Go.Proofs.YthocnhdefnbchaaGreatDoor.Sg

/-! Hu -/
namespace Go.Proofs.YthocnhdefnbchaaGreatDoor.Sg
open Go.RowKit Er Go.Maps

theorem RcsV.dropW {w : World} {g off n cap : Nat} {L : List Rc} (h : RcsV w (.slice (some ⟨g, off, none⟩) n cap) L) (p : Nat) : RcsV w (.slice (some ⟨g, off + p * 3, none⟩) (L.length - p) (cap - p)) (L.drop p) :=
  (rcsN_nil h).drop.plain

theorem rd_tail (o most : Int) : ∀ (l out : List Bt) (s : Nat), (∀ y ∈ l, o ≤ y.b ∧ o < y.b + y.r.length) → out ≠ [] →
    ∃ j, j ≤ l.length ∧ rdGo o most l out s = out ++ l.take j ∧ (0 < j → (s : Int) + sizes (l.take j) ≤ most) ∧ (∀ hj : j < l.length, most < (s : Int) + sizes (l.take j) + szB l[j])
  | [], out, s, _, _ => ⟨0, Nat.le_refl _, by simp [rdGo], fun h => absurd h (by decide), fun hj => absurd hj (by simp)⟩
  | y :: l, out, s, h, hne => by
    obtain ⟨h1, h2⟩ := h y List.mem_cons_self
    have hf : fromL y o = y := by unfold fromL; rw [if_pos h1]
    unfold rdGo
    rw [if_neg (by omega), hf]
    by_cases hst : most - (s : Int) < szB y
    · rw [if_pos ⟨hne, hst⟩]
      exact ⟨0, Nat.zero_le _, by simp, fun h => absurd h (by decide), fun _ => by simp [sizes]; omega⟩
    · rw [if_neg (fun hh => hst hh.2), if_neg (by omega)]
      obtain ⟨j, k1, k2, k3, k4⟩ := rd_tail o most l (out ++ [y]) (s + szB y) (fun z hz => h z (List.mem_cons_of_mem _ hz)) (by simp)
      refine ⟨j + 1, by simpa using k1, by rw [k2]; simp, fun _ => ?_, fun hj => ?_⟩
      · rw [List.take_succ_cons]
        simp only [sizes, List.map_cons, List.sum_cons] at k3 ⊢
        by_cases hj : 0 < j
        · have := k3 hj; omega
        · obtain rfl : j = 0 := by omega
          simp; omega
      · have := k4 (by simpa using hj)
        rw [List.take_succ_cons]
        simp only [sizes, List.map_cons, List.sum_cons, List.getElem_cons_succ] at this ⊢
        omega

/-- A read of an offset within a batch: what is left of it, and whole ones behind it while there is room. -/
theorem rd_shape (o most : Int) (g1 g2 : List Bt) (x : Bt) (b e : Int) (hc : Chain b e (g1 ++ x :: g2)) (hr : ∀ y, y ∈ g1 ++ x :: g2 → 1 ≤ y.r.length) (h1 : x.b ≤ o) (h2 : o < x.b + x.r.length) :
    ∃ j, j ≤ g2.length ∧ rdGo o most (g1 ++ x :: g2) [] 0 = fromL x o :: g2.take j ∧ (0 < j → (sizes (fromL x o :: g2.take j) : Int) ≤ most) ∧ (∀ hj : j < g2.length, most < (sizes (fromL x o :: g2.take j) : Int) + szB g2[j]) := by
  obtain ⟨c1, c2⟩ := (chain_app _ _ _ _).1 hc
  have hxb : x.b = endOf b g1 := c2.1
  have hskip : ∀ y ∈ g1, y.b + y.r.length ≤ o := fun y hy => by
    have := (chain_mem g1 _ _ c1 (fun z hz => hr z (by simp [hz])) y hy).2
    omega
  have hg2 : ∀ y ∈ g2, o ≤ y.b ∧ o < y.b + y.r.length := fun y hy => by
    have h3 := (chain_mem g2 _ _ c2.2.2 (fun z hz => hr z (by simp [hz])) y hy).1
    have h4 := hr y (by simp [hy])
    omega
  rw [rdGo_skip _ _ _ _ _ _ hskip]
  unfold rdGo
  rw [if_neg (by omega), if_neg (by simp)]
  by_cases hm : most < ((0 : Nat) : Int) + szB (fromL x o)
  · rw [if_pos (by simpa using hm)]
    refine ⟨0, Nat.zero_le _, by simp, fun h => absurd h (by decide), fun hj => ?_⟩
    have := szB_pos g2[0]
    simp [sizes]; omega
  · rw [if_neg (by simpa using hm)]
    obtain ⟨j, k1, k2, k3, k4⟩ := rd_tail o most g2 ([] ++ [fromL x o]) (0 + szB (fromL x o)) hg2 (by simp)
    refine ⟨j, k1, by rw [k2]; simp, fun hj => ?_, fun hj => ?_⟩
    · have := k3 hj
      simp only [sizes, List.map_cons, List.sum_cons] at this ⊢
      omega
    · have := k4 hj
      simp only [sizes, List.map_cons, List.sum_cons] at this ⊢
      omega
/-- Where an offset lies among batches that follow one another. -/
theorem chain_find : ∀ (l : List Bt) (b e : Int) (o : Int), Chain b e l → (∀ y, y ∈ l → 1 ≤ y.r.length) → b ≤ o → o < endOf b l → ∃ g1 x g2, l = g1 ++ x :: g2 ∧ x.b ≤ o ∧ o < x.b + x.r.length
  | [], b, _, o, _, _, h1, h2 => by simp [endOf] at h2; omega
  | x :: l, b, e, o, ⟨c1, c2, c3⟩, hr, h1, h2 => by
    by_cases h : o < x.b + x.r.length
    · exact ⟨[], x, l, rfl, by omega, h⟩
    · rw [endOf_cons] at h2
      obtain ⟨g1, y, g2, h3, h4, h5⟩ := chain_find l _ _ o c3 (fun z hz => hr z (List.mem_cons_of_mem _ hz)) (by omega) h2
      exact ⟨x :: g1, y, g2, by rw [h3]; rfl, h4, h5⟩
/-- There is one such batch. -/
theorem chain_one (l : List Bt) (b e : Int) (hc : Chain b e l) (hr : ∀ y, y ∈ l → 1 ≤ y.r.length) (o : Int) {i k : Nat} (hi : i < l.length) (hk : k < l.length) (h1 : l[i].b ≤ o) (h2 : o < l[i].b + l[i].r.length) (h3 : l[k].b ≤ o) (h4 : o < l[k].b + l[k].r.length) : i = k := by
  have key : ∀ {i k : Nat} (hi : i < l.length) (hk : k < l.length), i < k → l[i].b + l[i].r.length ≤ l[k].b := by
    intro i k hi hk hik
    have hsp : l = (l.take k) ++ l[k] :: l.drop (k + 1) := (take_split l k hk).symm
    rw [hsp] at hc
    obtain ⟨c1, c2⟩ := (chain_app _ _ _ _).1 hc
    have hm : l[i] ∈ l.take k := List.mem_take_iff_getElem.2 ⟨i, by omega, rfl⟩
    have := (chain_mem _ _ _ c1 (fun z hz => hr z (List.mem_of_mem_take hz)) _ hm).2
    have h5 : (l[k]).b = endOf b (l.take k) := c2.1
    omega
  rcases Nat.lt_trichotomy i k with h | h | h
  · have := key hi hk h; omega
  · exact h
  · have := key hk hi h; omega

theorem fromL_next (x : Bt) (o : Int) (h1 : x.b ≤ o) (h2 : o < x.b + x.r.length) : (fromL x o).b = o ∧ (fromL x o).b + (fromL x o).r.length = x.b + x.r.length ∧ (fromL x o).e = x.e ∧ (fromL x o).r = x.r.drop (o - x.b).toNat := by
  unfold fromL
  split
  · have : o = x.b := by omega
    subst this
    exact ⟨rfl, rfl, rfl, by rw [Int.sub_self]; rfl⟩
  · refine ⟨rfl, ?_, rfl, rfl⟩
    show o + ((x.r.drop (o - x.b).toNat).length : Int) = _
    rw [List.length_drop]; omega
/-- Each batch that was read: where it stands, and whose it is. -/
theorem rd_src (o : Int) (pre g1 g2 post : List Bt) (x : Bt) (L : List Bt) (hL : L = pre ++ ((g1 ++ x :: g2) ++ post)) (b e : Int) (hc : Chain b e L) (hr : ∀ y, y ∈ L → 1 ≤ y.r.length) (h1 : x.b ≤ o) (h2 : o < x.b + x.r.length) (j : Nat) :
    ∀ (i : Nat) (y : Bt), (fromL x o :: g2.take j)[i]? = some y → ∃ (ki : Nat) (z : Bt), L[ki]? = some z ∧ y.b = endOf o ((fromL x o :: g2.take j).take i) ∧ z.b ≤ y.b ∧ y.b < z.b + z.r.length ∧ y.e = z.e ∧ y.r = z.r.drop (y.b - z.b).toNat ∧ y.b + y.r.length = z.b + z.r.length := by
  obtain ⟨f1, f2, f3, f4⟩ := fromL_next x o h1 h2
  intro i y hy
  cases i with
  | zero =>
    simp only [List.getElem?_cons_zero, Option.some.injEq] at hy
    subst hy
    refine ⟨pre.length + g1.length, x, by rw [hL]; simp, by rw [f1]; rfl, by omega, by omega, f3, by rw [f4, f1], f2⟩
  | succ i =>
    rw [List.getElem?_cons_succ] at hy
    obtain ⟨hi, hyi⟩ := List.getElem?_eq_some_iff.1 hy
    have hi2 : i < g2.length := by rw [List.length_take] at hi; omega
    have hij : i < j := by rw [List.length_take] at hi; omega
    have hyg : g2[i] = y := by rw [← hyi, List.getElem_take]
    rw [hL] at hc hr
    obtain ⟨-, c2⟩ := (chain_app _ _ _ _).1 hc
    obtain ⟨c3, -⟩ := (chain_app _ _ _ _).1 c2
    obtain ⟨-, c4⟩ := (chain_app _ _ _ _).1 c3
    have c5 := c4.2.2
    have hsp : g2 = g2.take i ++ g2[i] :: g2.drop (i + 1) := (take_split g2 i hi2).symm
    rw [hsp] at c5
    have c6 := ((chain_app _ _ _ _).1 c5).2.1
    rw [hyg] at c6
    have hyr : 1 ≤ y.r.length := hr y (by rw [← hyg]; simp)
    have htt : (g2.take j).take i = g2.take i := by rw [List.take_take, Nat.min_eq_left (by omega)]
    refine ⟨pre.length + (g1.length + 1 + i), y, ?_, ?_, Int.le_refl _, by omega, rfl, by rw [Int.sub_self]; rfl, rfl⟩
    · rw [hL]
      have e1 : pre ++ ((g1 ++ x :: g2) ++ post) = pre ++ (g1 ++ ([x] ++ (g2 ++ post))) := by simp
      rw [e1, List.getElem?_append_right (by omega), List.getElem?_append_right (by omega), List.getElem?_append_right (by simp; omega), List.getElem?_append_left (by simp; omega)]
      rw [← hyg, ← List.getElem?_eq_getElem hi2]
      congr 1
      simp; omega
    · rw [List.take_succ_cons, endOf_cons, htt, f2]
      exact c6

/-- Where a read ends: not behind the segment; and if ahead of it, then where a batch begins. -/
theorem rd_end (o : Int) (g1 g2 : List Bt) (x : Bt) (b e : Int) (hc : Chain b e (g1 ++ x :: g2)) (hr : ∀ y, y ∈ g1 ++ x :: g2 → 1 ≤ y.r.length) (h1 : x.b ≤ o) (h2 : o < x.b + x.r.length) (j : Nat) :
    endOf o (fromL x o :: g2.take j) ≤ endOf b (g1 ++ x :: g2) ∧ (endOf o (fromL x o :: g2.take j) ≠ endOf b (g1 ++ x :: g2) → ∃ h : j < g2.length, g2[j].b = endOf o (fromL x o :: g2.take j)) := by
  obtain ⟨-, f2, -, -⟩ := fromL_next x o h1 h2
  obtain ⟨-, c2⟩ := (chain_app _ _ _ _).1 hc
  have c5 := c2.2.2
  have hr2 : ∀ y, y ∈ g2 → 1 ≤ y.r.length := fun y hy => hr y (by simp [hy])
  have e1 : endOf o (fromL x o :: g2.take j) = endOf (x.b + x.r.length) (g2.take j) := by rw [endOf_cons, f2]
  have e2 : endOf b (g1 ++ x :: g2) = endOf (x.b + x.r.length) g2 := by rw [endOf_app, endOf_cons]
  rw [e1, e2]
  rcases Nat.lt_or_ge j g2.length with h | h
  · have hsp := take_split g2 j h
    have e3 : endOf (x.b + x.r.length) g2 = endOf (endOf (x.b + x.r.length) (g2.take j)) (g2[j] :: g2.drop (j + 1)) := by rw [← endOf_app, hsp]
    rw [← hsp] at c5
    obtain ⟨-, d2⟩ := (chain_app _ _ _ _).1 c5
    have d3 : g2[j].b = endOf _ (g2.take j) := d2.1
    have d4 := chain_ge _ _ _ d2 (fun y hy => hr2 y (by rw [← hsp]; exact List.mem_append_right _ hy))
    rw [e3]
    exact ⟨by omega, fun _ => ⟨h, d3⟩⟩
  · rw [List.take_of_length_le h]; exact ⟨Int.le_refl _, fun hh => absurd rfl hh⟩

section
variable {D : Dk} {H : Hl} {b0 : Int} {l : List Bt}
/-- A segment lies within the log. -/
theorem HotOn.within (hO : HotOn D H b0 l) {p : Nat × Sg} (hp : p ∈ H.L) : b0 ≤ p.2.base ∧ p.2.end_ ≤ endOf b0 l := by
  obtain ⟨L1, L2, hL⟩ := List.append_of_mem hp
  obtain ⟨h1, h2, h3, h4, h5⟩ := hO.split (s := p.1) (G := p.2) hL
  have hr : ∀ x, x ∈ l → 1 ≤ x.r.length := fun x hx => (hO.ok x hx).1.n1
  rw [h5] at hr ⊢
  have h6 := chain_ge _ _ _ h4 (fun y hy => hr y (by simp only [List.mem_append]; exact .inr (.inr hy)))
  have h7 := chain_ge _ _ _ h3 (fun y hy => hr y (by simp only [List.mem_append]; exact .inl hy))
  rw [endOf_app, endOf_app, ← h2, ← end_eq]
  omega
/-- The segment that an offset lies in. -/
theorem HotOn.seg_of (hO : HotOn D H b0 l) (o : Int) (h1 : b0 ≤ o) (h2 : o < endOf b0 l) : ∃ L1 s G L2, H.L = L1 ++ (s, G) :: L2 ∧ (G.base : Int) ≤ o ∧ o < G.end_ := by
  obtain ⟨g1, x, g2, h3, h4, h5⟩ := chain_find l b0 0 o hO.ch (fun y hy => (hO.ok y hy).1.n1) h1 h2
  have hx : x ∈ l := by rw [h3]; simp
  rw [← hO.fl, List.mem_flatten] at hx
  obtain ⟨m, hm, hx⟩ := hx
  obtain ⟨p, hp, rfl⟩ := List.mem_map.1 hm
  obtain ⟨L1, L2, hL⟩ := List.append_of_mem hp
  have hch := hO.chain (s := p.1) (G := p.2) hL
  have := chain_mem _ _ _ hch (fun y hy => ((hO.sg p hp).1.ok y hy).n1) x hx
  rw [← end_eq] at this
  exact ⟨L1, p.1, p.2, L2, hL, by omega, by omega⟩
end
end Go.Proofs.YthocnhdefnbchaaGreatDoor.Sg
