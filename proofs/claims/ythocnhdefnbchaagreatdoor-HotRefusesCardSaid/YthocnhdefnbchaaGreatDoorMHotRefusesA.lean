/- cordwoodlaw10.all, joined; Row's batches of at most thirty numbers; the segments' triples. Log.Append refused; Row from an offset that may be less than 0. -/
import Derived.Test.YthocnhdefnbchaaGreatDoorMl
import Derived.Test.YthocnhdefnbchaaGreatDoorMg
import Derived.Test.YthocnhdefnbchaaGreatDoorMi
import Derived.Test.YthocnhdefnbchaaGreatDoorMe
import Derived.Test.YthocnhdefnbchaaGreatDoorMk
import Derived.ChangeKeysEq

/-! Hr -/
namespace Go.Proofs.YthocnhdefnbchaaGreatDoor.Sg
open Go.RowKit Er Go.Maps

theorem row_rn (every : Nat) : ∀ (l : List Int) (i : Nat) (a : Int), ∀ x, x ∈ rowGo every l i a → x.r.length ≤ 5
  | [], _, _, x, hx => by cases hx
  | s :: l, i, a, x, hx => by
    rcases List.mem_cons.1 hx with rfl | hx
    · rw [rBt_len]; exact (rN_pos s).2
    · exact row_rn every l _ _ x hx
theorem szB_le5 (x : Bt) (h : BtOk x) (hr : x.r.length ≤ 5) : szB x ≤ 3200 := by
  have h0 := batB_len x
  have h1 := bodyR_len (t0 x) x.r (t0_in x h) h.rs
  have h2 := vput_len64 (zig (t0 x)) (by have := t0_in x h; have := zig_lt (t0 x) (by omega) (by omega); omega)
  have h3 : (bodyB x).length ≤ 3100 := by simp [bodyB, headB, leB_len]; omega
  unfold szB; omega
theorem row30 (every : Nat) (xs : List Int) (base : Nat) (hb : base ≤ 1073741824) (hx : xs.length ≤ 30) : Chain base 0 (rowGo every xs 0 base) ∧ (∀ x, x ∈ rowGo every xs 0 base → BtOk x ∧ BtBy x) ∧ sizes (rowGo every xs 0 base) ≤ 96000 := by
  have hok := row_ok every xs 0 base (by omega) (by omega) (by omega)
  refine ⟨row_chain every xs 0 base 0 (by have := (rEp_mono every 0).2; omega), hok, ?_⟩
  have h : ∀ L : List Bt, (∀ x, x ∈ L → szB x ≤ 3200) → sizes L ≤ L.length * 3200 := by
    intro L
    induction L with
    | nil => intro _; simp [sizes]
    | cons x L ih =>
      intro h
      have h1 := h x List.mem_cons_self
      have h2 := ih (fun y hy => h y (List.mem_cons_of_mem _ hy))
      simp only [sizes, List.map_cons, List.sum_cons, List.length_cons] at h2 ⊢
      omega
  have h1 := h _ (fun x hx => szB_le5 x (hok x hx).1 (row_rn every xs 0 base x hx))
  rw [row_len] at h1
  omega

theorem row_m {P : Pm} {F : Mm} {w : World} (hH : Hp w P F) (a : Option Addr) (xs : List Int) (c n : Nat) (hn : xs.length = n) (hr : Pers P (fun w => IntsR w a xs)) (every : Nat) (he : every ≤ 1000000) (hx : n ≤ 1000000) (base : Int) (h0 : 0 ≤ base) (h1 : base ≤ 1099511627776) :
    Calls Tryz.prog 25 #[.int .i64 base, .slice a n c, .int .i64 every] w fun e w' => ∃ v P' out, e = .returned v ∧ Sub P P' ∧ out.map (·.1) = rowGo every xs 0 base ∧ BtsP P' v out ∧ Hp w' P' F := by
  subst hn
  exact row_p hH a xs c hr every he hx base h0 h1

/-- Two triples alike are equal. -/
theorem eqTri (u0 u1 u2 : Int) (w : World) : Sem.run Tryz.prog (Op.equalIn 10000 61 (.agg #[.int .i64 u0, .int .i64 u1, .int .i64 u2]) (.agg #[.int .i64 u0, .int .i64 u1, .int .i64 u2])) w = .ok true w := by
  obtain ⟨i, hi⟩ := info_of_underlying Tryz.underlying2
  have h := run_equalIn_array (P := Tryz.prog) w 9999 (t := 61) #[.int .i64 u0, .int .i64 u1, .int .i64 u2] #[.int .i64 u0, .int .i64 u1, .int .i64 u2] (n := 3) (e := 2) Tryz.underlying61 hi
  have hc : Tryz.prog.cellsOf 2 = 1 := by kernel_rfl
  rw [h, hc, show List.range 3 = [0, 1, 2] from rfl]
  simp [Op.eqItems, part, go_sem]

/-- Triples of lists of batches one behind the other. -/
def triL : Int → List (List Bt) → List Tri
  | _, [] => []
  | b, m :: ms => (b, endOf b m, sizes m) :: triL (endOf b m) ms
theorem triL_snoc : ∀ (ms : List (List Bt)) (b : Int) (m : List Bt), triL b (ms ++ [m]) = triL b ms ++ [(endOf b ms.flatten, endOf b (ms ++ [m]).flatten, sizes m)]
  | [], b, m => by simp [triL, endOf]
  | x :: ms, b, m => by
    show (b, endOf b x, sizes x) :: triL (endOf b x) (ms ++ [m]) = _
    rw [triL_snoc ms]
    simp only [List.flatten_cons, List.cons_append, endOf_app, triL, List.flatten_append]
theorem triL_len : ∀ (ms : List (List Bt)) (b : Int), (triL b ms).length = ms.length
  | [], _ => rfl
  | m :: ms, b => by simp [triL, triL_len ms]
theorem lk_tri : ∀ (L : List (Nat × Sg)) (b : Int), Lk b (L.map (·.2)) → L.map (fun p => triG p.2) = triL b (L.map (·.2.l))
  | [], _, _ => rfl
  | p :: L, b, ⟨h1, _, h3⟩ => by
    have := lk_tri L _ h3
    rw [List.map_cons, List.map_cons, this]
    show (triG p.2 :: triL p.2.end_ (L.map (·.2.l))) = (b, endOf b p.2.l, sizes p.2.l) :: triL (endOf b p.2.l) (L.map (·.2.l))
    rw [← h1, ← end_eq]; rfl

section
variable {S : List Nat} {E : Nat → Addr} {B : Nat} {P : Pm} {h : Nat} {H : Hl} {D : Dk} {A Ad F : Mm} {w : World} {b0 : Int} {l : List Bt}

/-- Where one stands behind so many segments: at the end, or ahead of a segment that has batches. -/
theorem HotOn.upto (hO : HotOn D H b0 l) (k : Nat) (hk : k ≤ H.L.length) :
    (endOf b0 ((H.L.take k).map (·.2.l)).flatten = endOf b0 l ∧ ((H.L.take k).map (·.2.l)).flatten = l) ∨
    ∃ (hk : k < H.L.length), endOf b0 ((H.L.take k).map (·.2.l)).flatten < endOf b0 l ∧ ((H.L[k]).2.base : Int) = endOf b0 ((H.L.take k).map (·.2.l)).flatten ∧ (H.L[k]).2.l ≠ [] := by
  by_cases hkn : k < H.L.length
  · have hsp : H.L = H.L.take k ++ ((H.L[k]).1, (H.L[k]).2) :: H.L.drop (k + 1) := HlM.nth k hkn
    obtain ⟨h1, h2, h3, h4, h5⟩ := hO.split hsp
    by_cases he : (H.L[k]).2.l = []
    · left
      have hd : H.L.drop (k + 1) = [] := Classical.byContradiction fun hd => by
        have hk2 := hO.lk
        rw [hsp, List.map_append, List.map_cons] at hk2
        exact (hk2.app.2.1 (by simpa using hd)).1 he
      rw [hd, he] at h5
      have h6 : ((H.L.take k).map (·.2.l)).flatten = l := by rw [h5]; simp
      exact ⟨by rw [h6], h6⟩
    · right
      refine ⟨hkn, ?_, h2, he⟩
      have hr : ∀ x, x ∈ ((H.L.drop (k + 1)).map (·.2.l)).flatten → 1 ≤ x.r.length := fun x hx => (hO.ok x (by rw [h5]; simp only [List.mem_append]; exact .inr (.inr hx))).1.n1
      have hg := chain_ge _ _ _ h4 hr
      have hs := hO.segend (p := ((H.L[k]).1, (H.L[k]).2)) (show H.L[k] ∈ H.L from List.getElem_mem hkn)
      have hl : 0 < (H.L[k]).2.l.length := List.length_pos_iff.2 he
      have e1 : endOf b0 l = endOf (H.L[k]).2.end_ ((H.L.drop (k + 1)).map (·.2.l)).flatten := by
        conv => lhs; rw [h5, endOf_app, endOf_app, ← h2, ← end_eq]
      rw [e1, ← h2]
      dsimp only at hs
      omega
  · left
    have e : H.L.take k = H.L := List.take_of_length_le (by omega)
    rw [e, hO.fl]
    exact ⟨rfl, rfl⟩
theorem perm_t (A B C E : Mm) : List.Perm (A ++ (B ++ (C ++ E))) (C ++ (A ++ (B ++ E))) := by
  have := perm_mid (A ++ B) C E
  simpa [List.append_assoc] using this

/-- What holds at the head of all's loop. -/
def All10Rel (P : Pm) (F A Ad : Mm) (H : Hl) (b0 : Int) (m : Nat) (vo va : Value) (w : World) : Prop :=
  ∃ (k : Nat) (P' : Pm) (out : List (Bt × Value)) (Ao : Mm), k + m = H.L.length ∧ va = .int .i64 (endOf b0 ((H.L.take k).map (·.2.l)).flatten) ∧ Sub P P' ∧ BtsM P' vo ((H.L.take k).map (·.2.l)).flatten out Ao ∧ Hp w P' (A ++ (Ad ++ (Ao ++ F)))

set_option maxRecDepth 100000 in
set_option maxHeartbeats 2000000 in
theorem all10_ok (C : Ctx S E B P) (hM : HlM h H A) (hO : HotOn D H b0 l) (hne : H.L ≠ []) (hD : DkM P H.d D Ad) (hsz : sizes l ≤ 1048576) (hll : l.length ≤ 1000) (hH : Hp w P (A ++ (Ad ++ F))) :
    Calls Tryz.prog 41 #[ptr h] w fun e w' => ∃ v out P', e = .returned (.tuple #[v, .bool true]) ∧ Sub P P' ∧ out.map (·.1) = l ∧ BtsP P' v out ∧ Hp w' P' (A ++ (Ad ++ F)) := by
  have hst := hO.hstart hne
  have hen := hO.hend hne
  have HST := Lib.hid hst
  have HEN := Lib.hid hen
  have HM := Lib.hid hM
  have HO := Lib.hid hO
  have HD := Lib.hid hD
  have H0 := Lib.hid hH
  have HSZ := Lib.hid hsz
  clear hst hen hM hO hD hH hsz hne
  obtain ⟨en, hen2⟩ : ∃ en, endOf b0 l = en := ⟨_, rfl⟩
  go_enter Tryz.func41, Tryz.ntmps41
  go_wp2_with fail
  refine (hstart_ok HM.out HO.out.W H0.out).mono ?_
  rintro e w1 ⟨rfl, hH1⟩
  rw [HST.out]
  have H1 := Lib.hid hH1
  clear hH1
  go_wp2_with fail
  go_loopg [4, 5] H.L.length (fun m vo va wr => All10Rel P F A Ad H b0 m vo va wr)
  case atStart => exact ⟨0, P, [], [], by omega, rfl, Sub.refl _, BtsM.nil P, H1.out⟩
  case round =>
    obtain ⟨k, P1, out, Ao, hk, rfl, hs1, hB, hHr⟩ := hrel
    obtain ⟨va, vc, rfl⟩ := hB.row.shape
    rcases HO.out.upto k (by omega) with ⟨heq, hfl⟩ | ⟨hkn, hlt, hbase, hgl⟩
    · rw [heq]
      have HR := Lib.hid hHr
      have HB := Lib.hid hB
      have HS1 := Lib.hid hs1
      have HFL := Lib.hid hfl
      rw [hen2]
      rw [hfl]
      clear hHr hB hs1 hfl heq
      go_wp2_with fail
      refine (hend_ok HM.out HO.out.W HR.out).mono ?_
      rintro e w2 ⟨rfl, hH2⟩
      rw [HEN.out, hen2]
      have H2 := Lib.hid hH2
      clear hH2
      go_wp2_with fail
      go_ret2
      obtain ⟨P2, hs2, hb2, hH3⟩ := HB.out.seal (H2.out.perm (perm_t A Ad Ao F))
      have hmm := HB.out.map.trans HFL.out
      rw [HFL.out] at hb2
      exact ⟨.slice va l.length vc, out, P2, rfl, HS1.out.trans hs2, hmm, hb2, hH3⟩
    · obtain ⟨gj, rfl⟩ : ∃ x, gk = x + 1 := ⟨gk - 1, by omega⟩
      rw [hen2] at hlt
      have hsp : H.L = H.L.take k ++ ((H.L[k]).1, (H.L[k]).2) :: H.L.drop (k + 1) := HlM.nth k hkn
      have hch := HO.out.chain hsp
      have hgm : ((H.L[k]).1, (H.L[k]).2) ∈ H.L := (show H.L[k] ∈ H.L from List.getElem_mem hkn)
      have hse := HO.out.segend hgm
      have hsg := sum_sub H.L _ hgm
      rw [HO.out.fl] at hsg
      have hokG := (HO.out.sg _ hgm).1.ok
      have hbyG := (HO.out.sg _ hgm).1.by_
      have htk : ((H.L.take (k + 1)).map (·.2.l)).flatten = ((H.L.take k).map (·.2.l)).flatten ++ (H.L[k]).2.l := by rw [take_next H.L k hkn]; simp only [List.map_append, List.map_cons, List.map_nil, List.flatten_append, List.flatten_cons, List.flatten_nil, List.append_nil]
      have hlen2 : ((H.L.take k).map (·.2.l)).flatten.length + (H.L[k]).2.l.length ≤ 1000 := by
        have h5 := (HO.out.split hsp).2.2.2.2
        have := congrArg List.length h5
        simp only [List.length_append] at this
        omega
      obtain ⟨s, hs⟩ : ∃ s, (H.L[k]).1 = s := ⟨_, rfl⟩
      obtain ⟨G, hG⟩ : ∃ G, (H.L[k]).2 = G := ⟨_, rfl⟩
      rw [hG] at hgl hbase hch hse hsg hokG hbyG htk hlen2
      rw [hs, hG] at hsp
      try dsimp only at hse hsg hokG hbyG
      obtain ⟨g0, x, hgx⟩ : ∃ g0 x, G.l = g0 ++ [x] := by
        rcases snoc_cases G.l with h0 | h0
        · exact absurd h0 hgl
        · exact h0
      have hxo : BtOk x := hokG x (by rw [hgx]; simp)
      have hend2 : endOf b0 ((H.L.take (k + 1)).map (·.2.l)).flatten = x.b + x.r.length := by rw [htk, hgx, ← List.append_assoc, endOf_snoc]
      have hgl1 : 0 < G.l.length := List.length_pos_iff.2 hgl
      have hall : rdGo G.base 1048576 G.l [] 0 = G.l := rdGo_all G.base 1048576 G.l [] 0 _ _ hch (Int.le_refl _) (fun y hy => (hokG y hy).n1) (by have := HSZ.out; omega)
      obtain ⟨P0, hP0⟩ : ∃ z, ((H.L.take k).map (·.2.l)).flatten = z := ⟨_, rfl⟩
      rw [hP0] at hlt hB hbase htk hlen2
      rw [← hbase] at hlt
      rw [hP0, ← hbase]
      have hss : G.base < G.end_ := by omega
      have HR := Lib.hid (hHr)
      have HB := Lib.hid hB
      have HS1 := Lib.hid hs1
      have HALL := Lib.hid hall
      have HSP := Lib.hid hsp
      have HTK := Lib.hid htk
      have HGX := Lib.hid hgx
      have HE2 := Lib.hid hend2
      have HXO := Lib.hid hxo
      have HLE := Lib.hid hlen2
      have HP0 := Lib.hid hP0
      clear hHr hB hs1 hall hsp htk hgx hend2 hxo hlen2 hch hgm hsg hokG hbyG hG hs hbase hP0
      go_wp2_with fail
      refine (hend_ok HM.out HO.out.W HR.out).mono ?_
      rintro e w2 ⟨rfl, hH2⟩
      rw [HEN.out, hen2]
      have H2 := Lib.hid hH2
      clear hH2
      go_wp2_with fail
      refine (hread_seg (C.sub HS1.out) HM.out HO.out (HD.out.sub HS1.out) HSP.out G.base 1048576 (Int.le_refl _) hss (by decide) (by decide) H2.out).mono ?_
      rintro e w3 ⟨v3, out3, P3, rfl, hs3, hm3, hb3, hH3⟩
      rw [HALL.out] at hm3
      obtain ⟨sa, sc, rfl, hsc⟩ := hb3.shape
      have hol : out3.length = G.l.length := by rw [← hm3, List.length_map]
      rw [hol] at hb3 hsc ⊢
      have hj : G.l.length - 1 < out3.length := by omega
      obtain ⟨g, off, cap, hvv, hcap, hbc⟩ := hb3.at_ hj
      have hx3 : (out3[G.l.length - 1]'hj).1 = x := by
        have h1 : (out3.map (·.1))[G.l.length - 1]? = some x := by rw [hm3, HGX.out]; simp
        rw [List.getElem?_map, List.getElem?_eq_getElem hj] at h1
        simpa using h1
      have H3 := Lib.hid (hH3.perm (perm_t A Ad Ao F))
      have HB3 := Lib.hid hb3
      have HS3 := Lib.hid hs3
      have HBC := Lib.hid hbc
      have HM3 := Lib.hid hm3
      have HX3 := Lib.hid hx3
      have HOL := Lib.hid hol
      have hne3 : (G.l.length : Int) ≠ 0 := by omega
      simp only [hol] at hvv
      simp only [Value.slice.injEq] at hvv
      obtain ⟨rfl, -, rfl⟩ := hvv
      obtain ⟨n3, hn3⟩ : ∃ n, G.l.length = n + 1 := ⟨G.l.length - 1, by omega⟩
      rw [hn3] at HB3 HOL hsc ⊢
      have HN3 := Lib.hid hn3
      have hnb : n3 ≤ 1000 := by have := HLE.out; omega
      clear hH3 hs3 hb3 hbc hm3 hx3 hne3 hol
      go_wp2_with (at_builtin; refine wpList_app_bts rfl _ _ rfl (.slice va P0.length vc) P0 out rfl (HB.out.sub HS3.out) (.slice (some ⟨g, off, none⟩) (n3 + 1) sc) out3 rfl HB3.out H3.out (by have := HLE.out; rw [HOL.out]; omega) ?_)
      intro v4 w4 A4 hbm4 hH4
      obtain ⟨ya, yc, rfl⟩ := hbm4.row.shape
      obtain ⟨-, c0, c1, c2, hrc⟩ := hH4.use HBC.out
      have hbv : BtV w4 (.agg #[.int .i64 x.b, .int .i64 x.e, (out3[G.l.length - 1]'hj).2]) x := ⟨_, rfl, by have := hrc; rwa [HX3.out] at this⟩
      rw [HX3.out] at c0 c1
      obtain ⟨p2, hp2⟩ : ∃ p2, (out3[G.l.length - 1]'hj).2 = p2 := ⟨_, rfl⟩
      rw [hp2] at c2 hbv
      rw [HN3.out, show n3 + 1 - 1 = n3 from rfl] at c0 c1 c2
      have H4 := Lib.hid hH4
      have HBM4 := Lib.hid hbm4
      clear hH4 hbm4 hrc hp2
      go_wp2_with fail
      refine (rnext_any x (by have := HXO.out.b0; omega) (by have := HXO.out.b1; omega) (by have := HXO.out.n64; omega) _ _ hbv).mono ?_
      rintro e w5 ⟨rfl, hb5⟩
      have H5 := Lib.hid (H4.out.below hb5 (Nat.le_refl _))
      clear hb5
      go_wp2_with fail
      go_roundg gj
      case measure => omega
      case rel =>
        refine ⟨k + 1, P3, out ++ out3, A4, by omega, by rw [HE2.out], HS1.out.trans HS3.out, ?_, ?_⟩
        · rw [HTK.out, ← HM3.out]; have := HBM4.out; rwa [List.length_append, List.length_map] at this
        · have := perm_mid A4 (A ++ Ad) F
          exact H5.out.perm (by simpa [List.append_assoc] using this)

theorem joined10_ok {w : World} {v1 v2 : Value} {L : List Bt} (h1 : BtsR w v1 L) (h2 : BtsR w v2 L) (hl : L.length ≤ 1000000000) (hs : ∀ x, x ∈ L → BtSm x) :
    Calls Tryz.prog 42 #[v1, v2] w fun e w' => e = .returned (.bool true) ∧ Below w.heap.size w w' := by
  go_enter Tryz.func42, Tryz.ntmps42
  go_wp2_with fail
  refine (samebatches_ok h1 h2 hl hs).mono ?_
  rintro e w1 ⟨rfl, hb⟩
  have HB := Lib.hid hb
  clear hb
  go_wp2_with fail
  go_ret
  exact ⟨rfl, HB.out⟩
end
end Go.Proofs.YthocnhdefnbchaaGreatDoor.Sg

/-! Kg -/
namespace Go.Proofs.YthocnhdefnbchaaGreatDoor.Sg
open Go.RowKit Er Go.Maps

section
variable {S : List Nat} {E : Nat → Addr} {B : Nat} {P : Pm} {h s : Nat} {H : Hl} {A F : Mm} {w : World}

theorem box_1 {P : Pm} {w : World} {A F : Mm} (hH : Hp w P (A ++ F)) (o : Obj) : Hp (w.alloc o) P (A ++ ((w.heap.size, o) :: F)) :=
  Hp.mid (A := [(w.heap.size, o)]) (B := A) (C := F) (hH.alloc o)
theorem box_1' {P : Pm} {w : World} {A F : Mm} {y : Nat × Obj} (hH : Hp w P (A ++ (y :: F))) : Hp w P (A ++ F) :=
  (Hp.mid (A := A) (B := [y]) (C := F) hH).drop

set_option maxRecDepth 100000 in
set_option maxHeartbeats 1000000 in
theorem happend_inv (C : Ctx S E B P) (hM : HlM h H A) (hne : H.L ≠ []) (hW : HlW H) (x : Bt) (hn : x.r.length ≤ 1099511627776) (c : Nat) (hc : vcode x = c) (hbad : ∃ a, ev E c = .iface 291 a) (v : Value) (hv : Pers P (fun w => BtV w v x)) (hH : Hp w P (A ++ F)) :
    Calls Tryz.prog 33 #[ptr h, v] w fun e w' => e = .returned (ev E c) ∧ Hp w' P (A ++ F) := by
  obtain ⟨rs, rfl, h2⟩ := hH.use hv
  obtain ⟨ra, rc, rfl⟩ := h2.shape
  have hH0 := box_1 hH (.cells #[.int .i64 x.b, .int .i64 x.e, .slice ra x.r.length rc] 38)
  obtain ⟨a, c', hc', hat⟩ := hM.at_
  obtain ⟨-, -, -, c3, -, -, -⟩ := hat _ P _ hH0
  obtain ⟨hlc, hlcd⟩ : ∃ m, H.L.length = m := ⟨_, rfl⟩
  have hlp : 0 < hlc := by rw [← hlcd]; exact List.length_pos_iff.2 hne
  have hln : hlc ≤ 1000000 := by rw [← hlcd]; exact hW.n
  rw [hlcd] at c3 hc'
  have w4 : ((hlc : Int) == 0) = false := beq_eq_false_iff_ne.2 (by omega)
  obtain ⟨ea, hea⟩ := hbad
  have H0 := Lib.hid hH0
  have HV := Lib.hid hv
  have HC := Lib.hid hc
  have HEA := Lib.hid hea
  rw [hea]
  clear hH hH0 hv h2 hc hea hat hlcd
  go_enter Tryz.func33, Tryz.ntmps33
  go_wp2_with fail
  refine (valid_any (C.all 3 (by decide)) (C.all 4 (by decide)) x hn _ _ (H0.out.use C.errs) (H0.out.use HV.out)).mono ?_
  rintro e w1 ⟨rfl, hb1⟩
  rw [HC.out, HEA.out]
  have H1 := Lib.hid (box_1' (H0.out.below hb1 (Nat.le_refl _)))
  clear hb1 c3
  go_wp2_with fail
  go_ret
  exact ⟨rfl, H1.out⟩

set_option maxRecDepth 100000 in
set_option maxHeartbeats 2000000 in
theorem happend_shape (C : Ctx S E B P) (hM : HlM h H A) (hne : H.L ≠ []) (hW : HlW H) (hsm : (H.L.map (·.2.l)).flatten.length ≤ 1000000) (x : Bt) (hxo : BtOk x) (hbad : x.b ≠ H.end_ ∨ (x.b = H.end_ ∧ x.e < H.ep)) (v : Value) (hv : Pers P (fun w => BtV w v x)) (hH : Hp w P (A ++ F)) :
    Calls Tryz.prog 33 #[ptr h, v] w fun e w' => e = .returned (.iface 291 (.pointer (some (E 2)))) ∧ Hp w' P (A ++ F) := by
  obtain ⟨rs, rfl, h2⟩ := hH.use hv
  obtain ⟨ra, rc, rfl⟩ := h2.shape
  have hH0 := box_1 hH (.cells #[.int .i64 x.b, .int .i64 x.e, .slice ra x.r.length rc] 38)
  obtain ⟨a, c', hc', hat⟩ := hM.at_
  obtain ⟨-, -, -, c3, -, -, -⟩ := hat _ P _ hH0
  have hbox : ∀ w' P' M, Hp w' P' M → (w.heap.size, Obj.cells #[.int .i64 x.b, .int .i64 x.e, .slice ra x.r.length rc] 38 (0, 0)) ∈ M →
      w'.cell? ⟨w.heap.size, 0, none⟩ = some (.int .i64 x.b) ∧ w'.cell? ⟨w.heap.size, 1, none⟩ = some (.int .i64 x.e) ∧ w'.cell? ⟨w.heap.size, 2, none⟩ = some (.slice ra x.r.length rc) := fun w' P' M hx hm =>
    ⟨hx.cell hm rfl, hx.cell hm rfl, hx.cell hm rfl⟩
  obtain ⟨hlc, hlcd⟩ : ∃ m, H.L.length = m := ⟨_, rfl⟩
  have hlp : 0 < hlc := by rw [← hlcd]; exact List.length_pos_iff.2 hne
  have hln : hlc ≤ 1000000 := by rw [← hlcd]; exact hW.n
  rw [hlcd] at c3 hc'
  have w4 : ((hlc : Int) == 0) = false := beq_eq_false_iff_ne.2 (by omega)
  obtain ⟨en, hen⟩ : ∃ en, H.end_ = en := ⟨_, rfl⟩
  obtain ⟨ep, hep⟩ : ∃ ep, H.ep = ep := ⟨_, rfl⟩
  rw [hen, hep] at hbad
  have ce : ∀ w, Agr P w → w.cell? ⟨6, 0, none⟩ = some (.iface 291 (.pointer (some (E 2)))) := fun w hw => (C.errs w hw).at_ 2 (C.all 2 (by omega))
  have H0 := Lib.hid hH0
  have HV := Lib.hid hv
  have HB := Lib.hid hbox
  have HXO := Lib.hid hxo
  have HEN := Lib.hid hen
  have HEP := Lib.hid hep
  have HW := Lib.hid hW
  have HSM := Lib.hid hsm
  have HCE := Lib.hid ce
  clear hH hH0 hv h2 hen hep hat hlcd hbox hxo hW hsm ce
  rcases hbad with hb | ⟨hb, hb2⟩
  · have HNE : Hid (¬ x.b = en) := hb
    clear hb
    go_enter Tryz.func33, Tryz.ntmps33
    go_wp2_with fail
    refine (valid_any (C.all 3 (by decide)) (C.all 4 (by decide)) x (by have := HXO.out.n64; omega) _ _ (H0.out.use C.errs) (H0.out.use HV.out)).mono ?_
    rintro e w1 ⟨rfl, hb1⟩
    rw [HXO.out.code, ev_zero]
    have H1 := Lib.hid (H0.out.below hb1 (Nat.le_refl _))
    clear hb1 c3
    go_wp2_with fail
    refine wp_region_hp (by kernel_rfl) (by decide) _ _ H1.out (fun i _ v => match i with | 0 => v = .pointer (some ⟨w.heap.size, 0, none⟩) | 1 => v = .int .i64 x.b | 2 => v = ptr h | 3 => v = .int .i64 en | 4 => v = .bool true | 5 => v = .bool true | 6 => v = undef | 7 => v = undef | 8 => v = undef | 9 => v = undef | 10 => v = undef | 11 => v = .bool true | _ => True) (by intro i P P' v _ h; exact h) ?_ ?_
    · intro i o ho u wq Pq hsq hHq hp K hK
      rcases i with _ | _ | _ | _ | _ | _ | _ | _ | _ | _ | _ | _ | i
      · cases ho
        simp only [frOf, Act.put, List.setIfInBounds_toArray, List.set_cons_zero, List.set_cons_succ, Nat.zero_add, Nat.reduceAdd] at hK ⊢
        go_simp
        exact hK _ wq Pq (Sub.refl _) hHq rfl
      · cases ho
        have h0 : u 0 = .pointer (some ⟨w.heap.size, 0, none⟩) := hp ⟨0, .data⟩ (by simp) rfl
        simp only [frOf, Act.put, List.setIfInBounds_toArray, List.set_cons_zero, List.set_cons_succ, Nat.zero_add, Nat.reduceAdd] at hK ⊢
        simp only [h0] at hK ⊢
        obtain ⟨k0, k1, -⟩ := HB.out _ _ _ hHq (by simp)
        go_simp
        exact hK _ wq Pq (Sub.refl _) hHq rfl
      · cases ho
        simp only [frOf, Act.put, List.setIfInBounds_toArray, List.set_cons_zero, List.set_cons_succ, Nat.zero_add, Nat.reduceAdd] at hK ⊢
        go_simp
        exact hK _ wq Pq (Sub.refl _) hHq rfl
      · cases ho
        have h2 : u 2 = ptr h := hp ⟨2, .data⟩ (by simp) rfl
        simp only [frOf, Act.put, List.setIfInBounds_toArray, List.set_cons_zero, List.set_cons_succ, Nat.zero_add, Nat.reduceAdd] at hK ⊢
        simp only [h2] at hK ⊢
        go_simp
        with_reducible refine (hend_ok hM HW.out hHq).mono ?_
        rintro e w9 ⟨rfl, hH9⟩
        rw [HEN.out]
        exact hK _ _ Pq (Sub.refl _) hH9 rfl
      · cases ho
        have h1 : u 1 = .int .i64 x.b := hp ⟨1, .data⟩ (by simp) rfl
        have h3 : u 3 = .int .i64 en := hp ⟨3, .data⟩ (by simp) rfl
        simp only [frOf, Act.put, List.setIfInBounds_toArray, List.set_cons_zero, List.set_cons_succ, Nat.zero_add, Nat.reduceAdd] at hK ⊢
        simp only [h1, h3] at hK ⊢
        go_simp
        exact hK _ wq Pq (Sub.refl _) hHq (by simp [HNE.out])
      · cases ho
        have h4 : u 4 = .bool true := hp ⟨4, .data⟩ (by simp) rfl
        simp only [frOf, Act.put, List.setIfInBounds_toArray, List.set_cons_zero, List.set_cons_succ, Nat.zero_add, Nat.reduceAdd] at hK ⊢
        simp only [h4] at hK ⊢
        go_simp
        exact hK _ wq Pq (Sub.refl _) hHq rfl
      · cases ho
        have h5 : u 5 = .bool true := hp ⟨5, .guard⟩ (by simp) rfl
        simp only [frOf, Act.put, List.setIfInBounds_toArray, List.set_cons_zero, List.set_cons_succ, Nat.zero_add, Nat.reduceAdd] at hK ⊢
        simp only [h5]
        first | exact trivial | (go_simp; done) | (rw [if_neg (by decide)]; trivial) | (rw [if_neg (Bool.not_eq_true _ ▸ (by kernel_rfl))]; trivial)
      · cases ho
        have h6 : u 6 = undef := hp ⟨6, .data⟩ (by simp) rfl
        have h5 : u 5 = .bool true := hp ⟨5, .guard⟩ (by simp) rfl
        simp only [frOf, Act.put, List.setIfInBounds_toArray, List.set_cons_zero, List.set_cons_succ, Nat.zero_add, Nat.reduceAdd] at hK ⊢
        simp only [h6, h5]
        first | exact trivial | (go_simp; done) | (rw [if_neg (by decide)]; trivial) | (rw [if_neg (Bool.not_eq_true _ ▸ (by kernel_rfl))]; trivial)
      · cases ho
        have h5 : u 5 = .bool true := hp ⟨5, .guard⟩ (by simp) rfl
        simp only [frOf, Act.put, List.setIfInBounds_toArray, List.set_cons_zero, List.set_cons_succ, Nat.zero_add, Nat.reduceAdd] at hK ⊢
        simp only [h5]
        first | exact trivial | (go_simp; done) | (rw [if_neg (by decide)]; trivial) | (rw [if_neg (Bool.not_eq_true _ ▸ (by kernel_rfl))]; trivial)
      · cases ho
        have h8 : u 8 = undef := hp ⟨8, .data⟩ (by simp) rfl
        have h5 : u 5 = .bool true := hp ⟨5, .guard⟩ (by simp) rfl
        simp only [frOf, Act.put, List.setIfInBounds_toArray, List.set_cons_zero, List.set_cons_succ, Nat.zero_add, Nat.reduceAdd] at hK ⊢
        simp only [h8, h5]
        first | exact trivial | (go_simp; done) | (rw [if_neg (by decide)]; trivial) | (rw [if_neg (Bool.not_eq_true _ ▸ (by kernel_rfl))]; trivial)
      · cases ho
        have h7 : u 7 = undef := hp ⟨7, .data⟩ (by simp) rfl
        have h9 : u 9 = undef := hp ⟨9, .data⟩ (by simp) rfl
        have h5 : u 5 = .bool true := hp ⟨5, .guard⟩ (by simp) rfl
        simp only [frOf, Act.put, List.setIfInBounds_toArray, List.set_cons_zero, List.set_cons_succ, Nat.zero_add, Nat.reduceAdd] at hK ⊢
        simp only [h7, h9, h5]
        first | exact trivial | (go_simp; done) | (rw [if_neg (by decide)]; trivial) | (rw [if_neg (Bool.not_eq_true _ ▸ (by kernel_rfl))]; trivial)
      · cases ho
        have h5 : u 5 = .bool true := hp ⟨5, .data⟩ (by simp) rfl
        have h10 : u 10 = undef := hp ⟨10, .data⟩ (by simp) rfl
        simp only [frOf, Act.put, List.setIfInBounds_toArray, List.set_cons_zero, List.set_cons_succ, Nat.zero_add, Nat.reduceAdd] at hK ⊢
        simp only [h5, h10] at hK ⊢
        go_simp
        exact hK _ wq Pq (Sub.refl _) hHq rfl
      · exact absurd ho (by simp)
    intro u wq Pq hsq hHq hR
    have h11 : u 11 = .bool true := hR 11 (by decide)
    simp only [frOf, List.setIfInBounds_toArray, List.set_cons_zero, List.set_cons_succ, Nat.zero_add, Nat.reduceAdd]
    simp only [h11]
    have H5 := Lib.hid (hHq.weaken hsq)
    clear hR hHq hsq h11
    have ck := HCE.out _ H5.out.agr
    go_wp2_with fail
    go_ret
    exact ⟨rfl, box_1' H5.out⟩
  · have HEQ : Hid (x.b = en) := hb
    have HLT := Lib.hid hb2
    clear hb hb2
    go_enter Tryz.func33, Tryz.ntmps33
    go_wp2_with fail
    refine (valid_any (C.all 3 (by decide)) (C.all 4 (by decide)) x (by have := HXO.out.n64; omega) _ _ (H0.out.use C.errs) (H0.out.use HV.out)).mono ?_
    rintro e w1 ⟨rfl, hb1⟩
    rw [HXO.out.code, ev_zero]
    have H1 := Lib.hid (H0.out.below hb1 (Nat.le_refl _))
    clear hb1 c3
    go_wp2_with fail
    refine wp_region_hp (by kernel_rfl) (by decide) _ _ H1.out (fun i _ v => match i with | 0 => v = .pointer (some ⟨w.heap.size, 0, none⟩) | 1 => v = .int .i64 x.b | 2 => v = ptr h | 3 => v = .int .i64 en | 4 => v = .bool false | 5 => v = .bool false | 6 => v = .pointer (some ⟨w.heap.size, 1, none⟩) | 7 => v = .int .i64 x.e | 8 => v = ptr h | 9 => v = .int .i64 ep | 10 => v = .bool true | 11 => v = .bool true | _ => True) (by intro i P P' v _ h; exact h) ?_ ?_
    · intro i o ho u wq Pq hsq hHq hp K hK
      rcases i with _ | _ | _ | _ | _ | _ | _ | _ | _ | _ | _ | _ | i
      · cases ho
        simp only [frOf, Act.put, List.setIfInBounds_toArray, List.set_cons_zero, List.set_cons_succ, Nat.zero_add, Nat.reduceAdd] at hK ⊢
        go_simp
        exact hK _ wq Pq (Sub.refl _) hHq rfl
      · cases ho
        have h0 : u 0 = .pointer (some ⟨w.heap.size, 0, none⟩) := hp ⟨0, .data⟩ (by simp) rfl
        simp only [frOf, Act.put, List.setIfInBounds_toArray, List.set_cons_zero, List.set_cons_succ, Nat.zero_add, Nat.reduceAdd] at hK ⊢
        simp only [h0] at hK ⊢
        obtain ⟨k0, k1, -⟩ := HB.out _ _ _ hHq (by simp)
        go_simp
        exact hK _ wq Pq (Sub.refl _) hHq rfl
      · cases ho
        simp only [frOf, Act.put, List.setIfInBounds_toArray, List.set_cons_zero, List.set_cons_succ, Nat.zero_add, Nat.reduceAdd] at hK ⊢
        go_simp
        exact hK _ wq Pq (Sub.refl _) hHq rfl
      · cases ho
        have h2 : u 2 = ptr h := hp ⟨2, .data⟩ (by simp) rfl
        simp only [frOf, Act.put, List.setIfInBounds_toArray, List.set_cons_zero, List.set_cons_succ, Nat.zero_add, Nat.reduceAdd] at hK ⊢
        simp only [h2] at hK ⊢
        go_simp
        with_reducible refine (hend_ok hM HW.out hHq).mono ?_
        rintro e w9 ⟨rfl, hH9⟩
        rw [HEN.out]
        exact hK _ _ Pq (Sub.refl _) hH9 rfl
      · cases ho
        have h1 : u 1 = .int .i64 x.b := hp ⟨1, .data⟩ (by simp) rfl
        have h3 : u 3 = .int .i64 en := hp ⟨3, .data⟩ (by simp) rfl
        simp only [frOf, Act.put, List.setIfInBounds_toArray, List.set_cons_zero, List.set_cons_succ, Nat.zero_add, Nat.reduceAdd] at hK ⊢
        simp only [h1, h3] at hK ⊢
        go_simp
        exact hK _ wq Pq (Sub.refl _) hHq (by simp [HEQ.out])
      · cases ho
        have h4 : u 4 = .bool false := hp ⟨4, .data⟩ (by simp) rfl
        simp only [frOf, Act.put, List.setIfInBounds_toArray, List.set_cons_zero, List.set_cons_succ, Nat.zero_add, Nat.reduceAdd] at hK ⊢
        simp only [h4] at hK ⊢
        go_simp
        exact hK _ wq Pq (Sub.refl _) hHq rfl
      · cases ho
        have h5 : u 5 = .bool false := hp ⟨5, .guard⟩ (by simp) rfl
        simp only [frOf, Act.put, List.setIfInBounds_toArray, List.set_cons_zero, List.set_cons_succ, Nat.zero_add, Nat.reduceAdd] at hK ⊢
        simp only [h5] at hK ⊢
        go_simp
        exact hK _ wq Pq (Sub.refl _) hHq rfl
      · cases ho
        have h6 : u 6 = .pointer (some ⟨w.heap.size, 1, none⟩) := hp ⟨6, .data⟩ (by simp) rfl
        have h5 : u 5 = .bool false := hp ⟨5, .guard⟩ (by simp) rfl
        simp only [frOf, Act.put, List.setIfInBounds_toArray, List.set_cons_zero, List.set_cons_succ, Nat.zero_add, Nat.reduceAdd] at hK ⊢
        simp only [h6, h5] at hK ⊢
        obtain ⟨k0, k1, -⟩ := HB.out _ _ _ hHq (by simp)
        go_simp
        exact hK _ wq Pq (Sub.refl _) hHq rfl
      · cases ho
        have h5 : u 5 = .bool false := hp ⟨5, .guard⟩ (by simp) rfl
        simp only [frOf, Act.put, List.setIfInBounds_toArray, List.set_cons_zero, List.set_cons_succ, Nat.zero_add, Nat.reduceAdd] at hK ⊢
        simp only [h5] at hK ⊢
        go_simp
        exact hK _ wq Pq (Sub.refl _) hHq rfl
      · cases ho
        have h8 : u 8 = ptr h := hp ⟨8, .data⟩ (by simp) rfl
        have h5 : u 5 = .bool false := hp ⟨5, .guard⟩ (by simp) rfl
        simp only [frOf, Act.put, List.setIfInBounds_toArray, List.set_cons_zero, List.set_cons_succ, Nat.zero_add, Nat.reduceAdd] at hK ⊢
        simp only [h8, h5] at hK ⊢
        go_simp
        with_reducible refine (hepoch_ok hM HW.out HSM.out hHq).mono ?_
        rintro e w9 ⟨rfl, hH9⟩
        rw [HEP.out]
        exact hK _ _ Pq (Sub.refl _) hH9 rfl
      · cases ho
        have h7 : u 7 = .int .i64 x.e := hp ⟨7, .data⟩ (by simp) rfl
        have h9 : u 9 = .int .i64 ep := hp ⟨9, .data⟩ (by simp) rfl
        have h5 : u 5 = .bool false := hp ⟨5, .guard⟩ (by simp) rfl
        simp only [frOf, Act.put, List.setIfInBounds_toArray, List.set_cons_zero, List.set_cons_succ, Nat.zero_add, Nat.reduceAdd] at hK ⊢
        simp only [h7, h9, h5] at hK ⊢
        go_simp
        exact hK _ wq Pq (Sub.refl _) hHq (by simp [HLT.out])
      · cases ho
        have h5 : u 5 = .bool false := hp ⟨5, .data⟩ (by simp) rfl
        have h10 : u 10 = .bool true := hp ⟨10, .data⟩ (by simp) rfl
        simp only [frOf, Act.put, List.setIfInBounds_toArray, List.set_cons_zero, List.set_cons_succ, Nat.zero_add, Nat.reduceAdd] at hK ⊢
        simp only [h5, h10] at hK ⊢
        go_simp
        exact hK _ wq Pq (Sub.refl _) hHq rfl
      · exact absurd ho (by simp)
    intro u wq Pq hsq hHq hR
    have h11 : u 11 = .bool true := hR 11 (by decide)
    simp only [frOf, List.setIfInBounds_toArray, List.set_cons_zero, List.set_cons_succ, Nat.zero_add, Nat.reduceAdd]
    simp only [h11]
    have H5 := Lib.hid (hHq.weaken hsq)
    clear hR hHq hsq h11
    have ck := HCE.out _ H5.out.agr
    go_wp2_with fail
    go_ret
    exact ⟨rfl, box_1' H5.out⟩
end

/-- What holds at the head of Row's outer loop. -/
def RowOutN (P : Pm) (F : Mm) (xs : List Int) (every : Nat) (base : Int) (m : Nat) (vo va vi : Value) (w : World) : Prop :=
  ∃ (i : Nat) (L : List Bt) (out : List (Bt × Value)) (P' : Pm) (A : Mm) (at_ : Int), i + m = xs.length ∧ va = .int .i64 at_ ∧ vi = .int .i64 i ∧ Sub P P' ∧ BtsM P' vo L out A ∧ L.length = i ∧
    L ++ rowGo every (xs.drop i) i at_ = rowGo every xs 0 base ∧ -10 ≤ at_ ∧ at_ ≤ base + 5 * i ∧ Hp w P' (A ++ F)

set_option maxRecDepth 100000 in
set_option maxHeartbeats 1000000 in
theorem row_neg {P : Pm} {F : Mm} {w : World} (hH : Hp w P F) (a : Option Addr) (xs : List Int) (c : Nat) (hr : Pers P (fun w => IntsR w a xs)) (every : Nat) (he : every ≤ 1000000) (hx : xs.length ≤ 1000000) (base : Int) (h0 : -10 ≤ base) (h1 : base ≤ 1099511627776) :
    Calls Tryz.prog 25 #[.int .i64 base, .slice a xs.length c, .int .i64 every] w fun e w' => ∃ v P' out, e = .returned v ∧ Sub P P' ∧ out.map (·.1) = rowGo every xs 0 base ∧ BtsP P' v out ∧ Hp w' P' F := by
  have H0 := Lib.hid hH
  have HR := Lib.hid hr
  clear hH hr
  go_enter Tryz.func25, Tryz.ntmps25
  go_wp2_with fail
  go_loopg [7, 8, 9] xs.length (fun m vo va vi wr => RowOutN P F xs every base m vo va vi wr)
  case atStart => exact ⟨0, [], [], P, [], base, by omega, rfl, rfl, Sub.refl P, BtsM.nil P, rfl, by simp, h0, by omega, H0.out⟩
  case round =>
    obtain ⟨i, L, out, P1, A, at_, hi, rfl, rfl, hs1, hbm, hLl, hgo, ha0, ha1, hHr⟩ := hrel
    by_cases hlt : i < xs.length
    · obtain ⟨gj, rfl⟩ : ∃ x, gk = x + 1 := ⟨gk - 1, by omega⟩
      obtain ⟨g, off, rfl, hg, hcell⟩ := hHr.use (HR.out.sub hs1) i _ (List.getElem?_eq_getElem hlt)
      obtain ⟨s, hs⟩ : ∃ s, xs[i] = s := ⟨_, rfl⟩
      rw [hs] at hcell
      obtain ⟨va, vc, rfl⟩ := hbm.row.shape
      have j1 : (i : Int) < (xs.length : Int) := by omega
      have j2 : (0 : Int) ≤ (i : Int) := by omega
      obtain ⟨ep, hep⟩ : ∃ ep, rEp every i = ep := ⟨_, rfl⟩
      have HEP := Lib.hid hep
      have HS := Lib.hid hs
      have HBM := Lib.hid hbm
      have HGO2 := Lib.hid hgo
      have HHr := Lib.hid hHr
      clear hep hs hbm hgo hHr
      have hcase : every = 0 ∨ 0 < every := by omega
      obtain ⟨q, hq⟩ : ∃ q : Nat, s % ((5 : Nat) : Int) = (q : Int) := ⟨(s % 5).toNat, by omega⟩
      have hq5 : q < 5 := by omega
      have HQ := Lib.hid hq
      have HN : Hid (rN s = q + 1) := by show rN s = q + 1; unfold rN; omega
      clear hq
      obtain ⟨tb, htb⟩ : ∃ tb, wr.heap.size = tb := ⟨_, rfl⟩
      have HTB := Lib.hid htb
      clear htb
      rcases hcase with hev | hev
      case' inl =>
        have HE1 : Hid (ep = 1) := by show ep = 1; rw [← HEP.out, hev]; rfl
        have HW : Hid (Hp (wr.alloc (.cells #[.int .i64 at_, .int .i64 1, .slice none 0 0] 38)) P1 ((tb, .cells #[.int .i64 at_, .int .i64 ep, .slice none 0 0] 38 (0, 0)) :: ([] ++ (A ++ F)))) := by
          rw [HE1.out, ← HTB.out]; exact HHr.out.alloc _
        have i1 : ¬ (0 : Int) < (every : Int) := by omega
        have i2 : ¬ 0 < every := by omega
        clear hev HHr
        go_wp2_with fail
      case' inr =>
        have HW : Hid (Hp (wr.alloc (.cells #[.int .i64 at_, .int .i64 ep, .slice none 0 0] 38)) P1 ((tb, .cells #[.int .i64 at_, .int .i64 ep, .slice none 0 0] 38 (0, 0)) :: ([] ++ (A ++ F)))) := by
          rw [← HTB.out]; exact HHr.out.alloc _
        have hdv : (i : Int) / (every : Int) = ((i / every : Nat) : Int) := rfl
        have hle := Nat.div_le_self i every
        have HEQ : Hid (1 + ((i / every : Nat) : Int) = ep) := by
          show _ = _
          rw [← HEP.out]; unfold rEp; rw [if_neg (by omega)]
        obtain ⟨dq, hdq⟩ : ∃ dq, i / every = dq := ⟨_, rfl⟩
        rw [hdq] at hdv hle HEQ
        have i1 : (0 : Int) < (every : Int) := by omega
        have i2 : ¬ (every : Int) = 0 := by omega
        have i3 : ¬ every = 0 := by omega
        clear hdq HHr
        go_wp2_with fail
        rw [HEQ.out]
      all_goals
        refine (number_any s 5 (by omega) (by omega) _).mono ?_
        rintro e w' ⟨rfl, rfl⟩
        rw [HQ.out, HTB.out]
        go_wp2_with fail
        go_loopg [12] (q + 1) (fun m vi wq => RowIn P1 (A ++ F) tb at_ ep s i (q + 1) m vi wq)
        case atStart => exact ⟨0, P1, _, [], [], by omega, rfl, Sub.refl P1, RcsM.nil P1, HW.out⟩
        case round =>
          obtain ⟨j, P2, rv, ro, Ar, hj, rfl, hs2, hrm, hHq⟩ := hrel
          obtain ⟨ra, rc, rfl⟩ := hrm.row.shape
          obtain ⟨g', off', hga, -, hcell⟩ := hHq.use ((HR.out.sub hs1).sub hs2) i _ (List.getElem?_eq_getElem hlt)
          cases hga
          rw [HS.out] at hcell
          by_cases hjl : j < q + 1
          · obtain ⟨gq, rfl⟩ : ∃ x, gk = x + 1 := ⟨gk - 1, by omega⟩
            have k1 : (j : Int) < (q : Int) + 1 := by omega
            have HRM := Lib.hid hrm
            have HQ2 := Lib.hid hHq
            clear hrm hHq
            go_wp2_with fail
            refine (number_any _ 9 (by omega) (by omega) _).mono ?_
            rintro e w' ⟨rfl, rfl⟩
            obtain ⟨v, hv, hv9, hve⟩ := rV_eq s j
            rw [hve]
            have HV := Lib.hid hv
            have hvv : (0 : Int) ≤ (v : Int) := by omega
            obtain ⟨P3, hs3, hH3, hm3⟩ := HQ2.out.lay (.cells #[.int .u8 (97 + (v : Int))] 5)
            have hkey : Pers P3 (fun w => SlB w (.slice (some ⟨wr.heap.size, 0, none⟩) 1 1) [97 + v]) := fun w1 hw => by
              have hb := hw.m _ _ hm3
              refine .inr (.inl ⟨wr.heap.size, 0, 1, rfl, Nat.le_refl _, (Array.getElem?_eq_some_iff.1 hb).1, fun k x hx => ?_⟩)
              have hk : k = 0 := by have := (List.getElem?_eq_some_iff.1 hx).1; simp at this; omega
              subst hk
              cases hx
              simp [World.cell?, hb]
            obtain ⟨iu, hiu, hu0, hu1, hu2⟩ := info_parts infoU8
            obtain ⟨w2, hrun, hown, hgrow⟩ := run_make_full (P := Tryz.prog) (wr.alloc (.cells #[.int .u8 (97 + (v : Int))] 5)) (wr.alloc (.cells #[.int .u8 (97 + (v : Int))] 5)).heap.size 22 5 iu (.int .u8 0) 1 Tryz.underlying22 hiu hu0 hu1 .i64 .i64 v (by rw [hu2]; omega) (by unfold maxLen; omega) (Nat.le_refl _)
            rw [made_zero] at hown
            simp only [World.alloc_size'] at hrun hown
            have hH4 := hH3.below (B := (wr.alloc (.cells #[.int .u8 (97 + (v : Int))] 5)).heap.size) ((Below.refl _ _).grown hgrow (Nat.le_refl _) (fun k hk => by cases hk)) (Nat.le_refl _)
            obtain ⟨A5, hr5, hH5⟩ := Hp.rowNew hH3 hH4 hown (by simp)
            obtain ⟨P5, hs5, hH6, hval⟩ := Hp.sealBytes hH5 hr5
            obtain ⟨rc0, hrc0⟩ : ∃ rc0 : Rc, rRec s i j = rc0 := ⟨_, rfl⟩
            have ht : rc0.t = 100 * (i : Int) + (j : Int) := by rw [← hrc0]; rfl
            have hkk : rc0.k = [97 + v] := by rw [← hrc0, ← HV.out]; rfl
            have hvl : rc0.v = List.replicate v 0 := by rw [← hrc0, ← HV.out]; rfl
            rw [← hkk] at hkey
            rw [← hvl] at hval
            have hH7 : Hp (w2.alloc (.cells #[.int .i64 (100 * (i : Int) + (j : Int)), .slice (some ⟨wr.heap.size, 0, none⟩) 1 1, .slice (some ⟨wr.heap.size + 1, 0, none⟩) v v] 119)) P5
                (Ar ++ ((tb, .cells #[.int .i64 at_, .int .i64 ep, .slice ra j rc] 38 (0, 0)) :: (A ++ F))) := by
              have h := (hH6.alloc (.cells #[.int .i64 (100 * (i : Int) + (j : Int)), .slice (some ⟨wr.heap.size, 0, none⟩) 1 1, .slice (some ⟨wr.heap.size + 1, 0, none⟩) v v] 119)).tail
              have h2 := Hp.mid (A := [(tb, Obj.cells #[.int .i64 at_, .int .i64 ep, .slice ra ((List.range j).map (rRec s i)).length rc] 38 (0, 0))]) (B := Ar) (C := A ++ F) h
              simpa using h2
            have t2 := (@Hp.cell _ _ _ hH7 tb #[.int .i64 at_, .int .i64 ep, .slice ra j rc] 38 (0, 0) (by simp)) (i := 2) rfl
            have H7 := Lib.hid hH7
            have HKEY := Lib.hid (hkey.sub hs5)
            have HVAL := Lib.hid hval
            have HS25 := Lib.hid (hs3.trans hs5)
            have HT := Lib.hid ht
            have HRC0 := Lib.hid hrc0
            clear hv hve hH3 hm3 hkey hown hgrow hH4 hr5 hH5 hH6 hval hH7 hs3 hs5 ht hkk hvl hrc0 hiu hu0 hu1 hu2
            have hr0 : RowM 119 3 (.slice ra j rc) j (rcsRow ro) Ar := by
              have := HRM.out.row
              simpa using this
            have HR0 := Lib.hid hr0
            clear hr0
            go_wp2_with (at_builtin; refine wpList_push_hp rfl _ _ _ rfl 119 _ 3 56 Tryz.underlying36 infoRc2 rfl (by omega) (.slice ra j rc) j (rcsRow ro) rfl H7.out HR0.out #[.int .i64 (100 * (i : Int) + (j : Int)), .slice (some ⟨wr.heap.size, 0, none⟩) 1 1, .slice (some ⟨wr.heap.size + 1, 0, none⟩) v v] (by show Value.slice (some ⟨w2.heap.size + 1, 0, none⟩) 1 1 = _; rw [World.alloc_size']) rfl (by intro u hu; simp at hu; rcases hu with rfl | rfl | rfl <;> rfl) (by omega) (by omega) ?_)
            intro ga ca w7 A7 hr7 hH7
            have hrm7 : RcsM P5 (.slice (some ⟨ga, 0, none⟩) (j + 1) ca) ((List.range (j + 1)).map (rRec s i)) (ro ++ [(rc0, .slice (some ⟨wr.heap.size, 0, none⟩) 1 1, .slice (some ⟨wr.heap.size + 1, 0, none⟩) v v)]) A7 := by
              refine ⟨?_, ?_, ?_⟩
              · rw [List.map_append, HRM.out.map, List.range_succ, List.map_append, ← HRC0.out]; rfl
              · rw [rcsRow_app]
                have h1 : rcsRow [(rc0, Value.slice (some ⟨wr.heap.size, 0, none⟩) 1 1, Value.slice (some ⟨wr.heap.size + 1, 0, none⟩) v v)] = [.int .i64 (100 * (i : Int) + (j : Int)), .slice (some ⟨wr.heap.size, 0, none⟩) 1 1, .slice (some ⟨wr.heap.size + 1, 0, none⟩) v v] := by
                  show [Value.int .i64 rc0.t, _, _] = _
                  rw [HT.out]
                rw [h1]
                simpa using hr7
              · intro w8 hw8 p hp
                rcases List.mem_append.1 hp with hp | hp
                · exact HRM.out.rs w8 (hw8.sub HS25.out) p hp
                · rw [List.mem_singleton.1 hp]
                  exact ⟨HKEY.out w8 hw8, HVAL.out w8 hw8⟩
            have f2 := @Hp.frozen _ _ _ hH7 tb #[.int .i64 at_, .int .i64 ep, .slice ra j rc] 38 (by simp) 2
            have t2' := (@Hp.cell _ _ _ hH7 tb #[.int .i64 at_, .int .i64 ep, .slice ra j rc] 38 (0, 0) (by simp)) (i := 2) rfl
            have h8 : Hp (w7.setCell ⟨tb, 2, none⟩ (.slice (some ⟨ga, 0, none⟩) (j + 1) ca)) P5 ((tb, .cells #[.int .i64 at_, .int .i64 ep, .slice (some ⟨ga, 0, none⟩) (j + 1) ca] 38 (0, 0)) :: (A7 ++ (A ++ F))) := by
              have h := Hp.set (Hp.mid (A := A7) (B := [(tb, Obj.cells #[.int .i64 at_, .int .i64 ep, .slice ra j rc] 38 (0, 0))]) (C := A ++ F) hH7) 2 (.slice (some ⟨ga, 0, none⟩) (j + 1) ca)
              simpa using h
            have H8 := Lib.hid h8
            have HRM7 := Lib.hid hrm7
            clear hr7 hH7 hrm7 h8
            go_wp2_with fail
            go_roundg gq
            case measure => omega
            case rel => exact ⟨j + 1, P5, _, _, A7, by omega, by simp, hs2.trans HS25.out, HRM7.out, H8.out⟩
          · obtain rfl : j = q + 1 := by omega
            have hh := Hp.mid (A := [(tb, Obj.cells #[.int .i64 at_, .int .i64 ep, .slice ra ((List.range (q + 1)).map (rRec s i)).length rc] 38 (0, 0))]) (B := Ar) (C := A ++ F) hHq
            obtain ⟨P6, hs6, hrv, hH6⟩ := hrm.seal hh
            have hlq : ((List.range (q + 1)).map (rRec s i)).length = q + 1 := by simp
            rw [hlq] at hrv hH6
            have c0 := (@Hp.cell _ _ _ hH6 tb #[.int .i64 at_, .int .i64 ep, .slice ra (q + 1) rc] 38 (0, 0) (by simp)) (i := 0) rfl
            have c1 := (@Hp.cell _ _ _ hH6 tb #[.int .i64 at_, .int .i64 ep, .slice ra (q + 1) rc] 38 (0, 0) (by simp)) (i := 1) rfl
            have c2 := (@Hp.cell _ _ _ hH6 tb #[.int .i64 at_, .int .i64 ep, .slice ra (q + 1) rc] 38 (0, 0) (by simp)) (i := 2) rfl
            have hH7 : Hp wr P6 (A ++ ((tb, .cells #[.int .i64 at_, .int .i64 ep, .slice ra (q + 1) rc] 38 (0, 0)) :: F)) := Hp.mid (A := [(tb, Obj.cells #[.int .i64 at_, .int .i64 ep, .slice ra (q + 1) rc] 38 (0, 0))]) (B := A) (C := F) hH6
            have hr0 : RowM 38 3 (.slice va i vc) i (btsV out) A := by
              have := HBM.out.row
              rw [hLl] at this; exact this
            have HR0 := Lib.hid hr0
            have H7 := Lib.hid hH7
            have HRV := Lib.hid hrv
            have HS6 := Lib.hid (hs2.trans hs6)
            have HLL := Lib.hid hLl
            have k1 : ¬ ((q : Int) + 1 < (q : Int) + 1) := by omega
            clear hrm hHq hh hs6 hrv hH6 hlq hH7 hr0 hLl
            go_wp2_with (at_builtin; refine wpList_push_hp rfl _ _ _ rfl 38 _ 3 40 Tryz.underlying33 infoBt rfl (by omega) (.slice va i vc) i (btsV out) rfl H7.out HR0.out #[.int .i64 at_, .int .i64 ep, .slice ra (q + 1) rc] rfl rfl (by intro u hu; simp at hu; rcases hu with rfl | rfl | rfl <;> rfl) (by omega) (by omega) ?_)
            intro ga ca w7 A7 hr7 hH8
            have hbx : rBt every s i at_ = ⟨at_, ep, (List.range (q + 1)).map (rRec s i)⟩ := by unfold rBt; rw [HEP.out, HN.out]
            have hbm7 : BtsM P6 (.slice (some ⟨ga, 0, none⟩) (i + 1) ca) (L ++ [rBt every s i at_]) (out ++ [(rBt every s i at_, .slice ra (q + 1) rc)]) A7 := by
              refine ⟨by rw [List.map_append, HBM.out.map]; rfl, ?_, ?_⟩
              · rw [btsV_app, List.length_append, HLL.out, hbx]; exact hr7
              · intro w8 hw8 p hp
                rcases List.mem_append.1 hp with hp | hp
                · exact HBM.out.rs w8 (hw8.sub HS6.out) p hp
                · rw [List.mem_singleton.1 hp, hbx]
                  exact rcsN_nil (HRV.out w8 hw8)
            have hgo8 : (L ++ [rBt every s i at_]) ++ rowGo every (xs.drop (i + 1)) (i + 1) (at_ + ((q : Int) + 1)) = rowGo every xs 0 base := by
              have h := HGO2.out
              rw [List.drop_eq_getElem_cons hlt, HS.out] at h
              rw [← h]
              simp [rowGo, HN.out]
            have H8 := Lib.hid hH8
            have HB7 := Lib.hid hbm7
            have HG8 := Lib.hid hgo8
            have h9 : Hp w7 P6 (A7 ++ F) := by
              have := Hp.mid (A := A7) (B := [(tb, Obj.cells #[.int .i64 at_, .int .i64 ep, .slice ra (q + 1) rc] 38 (0, 0))]) (C := F) hH8
              exact this.tail
            have H9 := Lib.hid h9
            clear hr7 hH8 hbm7 hgo8 hbx h9
            go_wp2_with fail
            go_roundg gj
            case measure => omega
            case rel => exact ⟨i + 1, _, _, P6, A7, at_ + ((q : Int) + 1), by omega, rfl, by simp, hs1.trans HS6.out, HB7.out, by rw [List.length_append, HLL.out]; rfl, HG8.out, by omega, by omega, H9.out⟩
    · obtain rfl : i = xs.length := by omega
      have hL : L = rowGo every xs 0 base := by
        rw [List.drop_length] at hgo
        rw [← hgo]; simp [rowGo]
      obtain ⟨P2, hs2, hbp, hH2⟩ := hbm.seal hHr
      have hmap := hbm.map
      have HM := Lib.hid (hmap.trans hL)
      have HBP := Lib.hid hbp
      have H2 := Lib.hid hH2
      have HS2 := Lib.hid (hs1.trans hs2)
      clear hL hbp hmap hH2 hs2 hbm hgo hHr
      obtain ⟨va, vc, hvv, -⟩ := HBP.out.shape
      go_wp2_with fail
      go_ret
      exact ⟨_, P2, out, rfl, HS2.out, HM.out, HBP.out, H2.out⟩


end Go.Proofs.YthocnhdefnbchaaGreatDoor.Sg
