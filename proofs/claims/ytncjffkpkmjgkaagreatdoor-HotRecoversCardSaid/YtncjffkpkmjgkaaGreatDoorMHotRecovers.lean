/- cordwoodlaw10.HotRecovers answers true for every input. The table of powers and the errors out of the lists of chapter 10's rows. The statement HotRecovers of chapter 10 holds for every input: the call returns true and leaves its arguments as they were. -/
import Derived.Test.YtncjffkpkmjgkaaGreatDoorMHotRecoversA
import Derived.Test.YtncjffkpkmjgkaaGreatDoorMq
import Derived.Test.YtncjffkpkmjgkaaGreatDoorMl
import Derived.Test.YtncjffkpkmjgkaaGreatDoorMi
import Derived.Test.YtncjffkpkmjgkaaGreatDoorMf
import Derived.Test.YtncjffkpkmjgkaaGreatDoorRows
import Derived.Test.YtncjffkpkmjgkaaGreatDoorMHotRecoversB
import Derived.Test.YtncjffkpkmjgkaaGreatDoorCards
import Derived.Test.YtncjffkpkmjgkaaGreatDoorTie
import Derived.Stop.LaidErr
import Derived.ProofKit
import Derived.OpenShut
import Derived.LaidMore
import Derived.Deep.DeepWitnessRowRef

/-! Jh -/
namespace Go.Proofs.YtncjffkpkmjgkaaGreatDoor.Sg
open Go.RowKit Er Go.Maps

theorem arm_un2 {D : Dk} (h1 : D.arm = 0) (h2 : D.down = false) (n : Nat) : ({ D with arm := n } : Dk).un = D := by
  cases D
  dsimp only at h1 h2
  subst h1 h2
  rfl
theorem ApGone.endW {D D' : Dk} {H H' : Hl} {b0 : Int} {l : List Bt} (h : ApGone D D' H H' b0 l) : HlW H' ∧ H'.end_ = endOf b0 l := by
  obtain ⟨-, -, -, -, hne, -, -, h | ⟨D0, bn, b, h, -, -, -⟩⟩ := h
  · exact ⟨h.W, h.hend hne⟩
  · exact ⟨h.W, h.hend hne⟩
/-- The loop's state. -/
def RcRel (P0 : Pm) (hx dx seg : Nat) (L : List Bt) (n m : Nat) (vl vi : Value) (w : World) : Prop :=
  ∃ (i : Nat) (P : Pm) (A Ad : Mm) (D : Dk) (H : Hl) (low : Int), i + m = n ∧ vi = .int .i64 i ∧ vl = .int .i64 low ∧ Sub P0 P ∧ HlM hx H A ∧ DkM P dx D Ad ∧ HotOn D.un H ((0 : Nat) : Int) (L.take i) ∧ (H.d = dx ∧ H.seg = seg ∧ H.every = 60 ∧ D.room = 1048576 ∧ D.n ≤ i + 1 ∧ H.L ≠ []) ∧ (0 ≤ low ∧ low ≤ 200 ∧ low ≤ H.low) ∧ Hp w P (A ++ (Ad ++ []))

/-- The last loop's state. -/
def Rc2Rel (P0 : Pm) (F : Mm) (yh dx : Nat) (L : List Bt) (n m : Nat) (vi : Value) (w : World) : Prop :=
  ∃ (i : Nat) (P : Pm) (A Ad : Mm) (D : Dk) (H : Hl), i + m = n ∧ vi = .int .i64 i ∧ Sub P0 P ∧ HlM yh H A ∧ DkM P dx D Ad ∧ HotOn D H ((0 : Nat) : Int) (L.take i) ∧ (H.d = dx ∧ D.room = 1048576 ∧ D.n ≤ i + 40 ∧ H.L ≠ []) ∧ Hp w P (A ++ (Ad ++ F))

set_option maxRecDepth 100000 in
set_option maxHeartbeats 16000000 in
theorem hotrecovers_all (a0 : Option Addr) (len0 cap0 : Nat) (z0 : List Int) (a b c : Int) (a4 : Option Addr) (len4 cap4 : Nat) (z4 : List Int) (W : World) (h : IsRow W a0 len0 cap0 z0) (hp : IsRow W a4 len4 cap4 z4) {S : List Nat} (hS : ∀ i, i < 10 ∨ i = 14 → i ∈ S) (hE : Errs S W (errAt W) W.heap.size)
    (hT : Lib.TabIs Tryz.prog W "internal/strconv.uint64pow10" .u64 Lib.pow10Tab) :
    Calls Tryz.prog 5 #[.slice a0 len0 cap0, .int .i64 a, .int .i64 b, .int .i64 c, .slice a4 len4 cap4] W fun e W' => e = .returned (.bool true) ∧ Below W.heap.size W W' := by
  have C := ctx_start hS hE hT
  obtain ⟨xs, rfl, hC⟩ := isRow_C h
  obtain ⟨ps, rfl, hQ⟩ := isRow_C hp
  have hCp := ints_pers hC
  have hQp := ints_pers hQ
  have H0 : Hid (Hp W (Pm.start W) []) := Hp.start W
  have HCP := Lib.hid hCp
  have HCQ := Lib.hid hQp
  clear h hC hp hQ hE hT hCp hQp
  obtain ⟨n, hn⟩ : ∃ n, xs.length = n := ⟨_, rfl⟩
  obtain ⟨np, hnp⟩ : ∃ n, ps.length = n := ⟨_, rfl⟩
  have HNX := Lib.hid hn
  have HNP := Lib.hid hnp
  rw [hn, hnp]
  have hcase : (20 < n) ∨ (¬ 20 < n ∧ 10 < np) ∨ (¬ 20 < n ∧ ¬ 10 < np) := by omega
  rcases hcase with h1 | ⟨h1, h3⟩ | ⟨h1, h3⟩
  · clear hn hnp
    go_enter Tryz.func5, Tryz.ntmps5
    go_wp2_with fail
    refine (first10_ok C H0.out).mono ?_
    rintro e w1 ⟨rfl, P1, hs1, hH1⟩
    have HB := Lib.hid (hH1.to_below hs1)
    clear hH1 hs1
    go_wp2_with fail
    go_ret
    exact ⟨rfl, HB.out⟩
  · have d1 : decide ((20 : Int) < (n : Int)) = false := decide_eq_false (by omega)
    have d3 : decide ((10 : Int) < (np : Int)) = true := decide_eq_true (by omega)
    have d4 : (decide ((20 : Int) < (n : Int)) || decide ((10 : Int) < (np : Int))) = true := by rw [d1, d3]; rfl
    clear hn hnp
    go_enter Tryz.func5, Tryz.ntmps5
    go_wp2_with fail
    refine (first10_ok C H0.out).mono ?_
    rintro e w1 ⟨rfl, P1, hs1, hH1⟩
    have HB := Lib.hid (hH1.to_below hs1)
    clear hH1 hs1
    go_wp2_with fail
    go_ret
    exact ⟨rfl, HB.out⟩
  · obtain ⟨hch, hok, hsz, hen1, hen2⟩ := row20b 3 xs 0 (by omega) (by omega)
    obtain ⟨L, hLd⟩ : ∃ L, L = rowGo 3 xs 0 ((0 : Nat) : Int) := ⟨_, rfl⟩
    have hll : L.length = n := by rw [hLd]; exact (row_len 3 xs 0 _).trans hn
    rw [← hLd] at hch hok hsz hen1 hen2
    have hr : ∀ x, x ∈ L → 1 ≤ x.r.length := fun x hx => (hok x hx).1.n1
    obtain ⟨qa, hqa⟩ : ∃ q : Nat, a % ((300 : Nat) : Int) = (q : Int) := ⟨(a % 300).toNat, by omega⟩
    have hqa5 : qa < 300 := by omega
    obtain ⟨qb, hqb⟩ : ∃ q : Nat, b % ((5 : Nat) : Int) = (q : Int) := ⟨(b % 5).toNat, by omega⟩
    have hqb5 : qb < 5 := by omega
    obtain ⟨qc, hqc⟩ : ∃ q : Nat, c % ((60 : Nat) : Int) = (q : Int) := ⟨(c % 60).toNat, by omega⟩
    have hqc5 : qc < 60 := by omega
    have hob : ∀ k, k ≤ n → 0 ≤ endOf ((0 : Nat) : Int) (L.take k) ∧ endOf ((0 : Nat) : Int) (L.take k) ≤ 200 := fun k hk => by
      have h1 : 0 ≤ endOf ((0 : Nat) : Int) (L.take k) := by
        rcases Nat.eq_zero_or_pos k with h | h
        · rw [h]; exact Int.le_refl _
        · have := endOf_mono hr hch h (by omega)
          rw [List.take_zero] at this
          have h0 : endOf ((0 : Nat) : Int) [] = 0 := rfl
          omega
      have h2 : endOf ((0 : Nat) : Int) (L.take k) ≤ endOf ((0 : Nat) : Int) L := by
        rcases Nat.lt_or_ge k n with h | h
        · have := endOf_mono hr hch (i := k) (j := n) h (by omega)
          rw [show L.take n = L from List.take_of_length_le (by omega)] at this
          omega
        · rw [List.take_of_length_le (by omega)]; exact Int.le_refl _
      omega
    have HOB := Lib.hid hob
    have HR := Lib.hid hr
    have HQA := Lib.hid hqa
    have HQB := Lib.hid hqb
    have HQC := Lib.hid hqc
    have HLD := Lib.hid hLd
    have HCH := Lib.hid hch
    have HOK := Lib.hid hok
    have HSZ := Lib.hid hsz
    have HLL := Lib.hid hll
    have d1 : decide ((20 : Int) < (n : Int)) = false := decide_eq_false (by omega)
    have d3 : decide ((10 : Int) < (np : Int)) = false := decide_eq_false (by omega)
    have d4 : (decide ((20 : Int) < (n : Int)) || decide ((10 : Int) < (np : Int))) = false := by rw [d1, d3]; rfl
    have n8 : n ≤ 20 := by omega
    clear hn hnp hLd hch hok hsz hll hr hqa hqb hqc hob hen1 hen2
    go_enter Tryz.func5, Tryz.ntmps5
    go_wp2_with fail
    refine (first10_ok C H0.out).mono ?_
    rintro e w1 ⟨rfl, P1, hs1, hH1⟩
    have H1 := Lib.hid hH1
    have HS1 := Lib.hid hs1
    clear hH1 hs1
    go_wp2_with fail
    refine (number_any a 300 (by omega) (by omega) _).mono ?_
    rintro e w' ⟨rfl, rfl⟩
    rw [HQA.out]
    go_wp2_with fail
    rw [show (qa : Int) + 1 = ((qa + 1 : Nat) : Int) from rfl]
    refine (row_m H1.out a0 xs cap0 n HNX.out (HCP.out.sub HS1.out) 3 (by decide) (by omega) 0 (by decide) (by decide)).mono ?_
    rintro e w2 ⟨v2, P2, out2, rfl, hs2, hm2, hb2, hH2⟩
    have hm2' : out2.map (·.1) = L := hm2.trans HLD.out.symm
    have hol : out2.length = n := by have := congrArg List.length hm2'; rw [List.length_map, HLL.out] at this; exact this
    have H2 := Lib.hid hH2
    have HB2 := Lib.hid hb2
    have HM2 := Lib.hid hm2'
    have HO2 := Lib.hid hol
    have HS2 := Lib.hid (HS1.out.trans hs2)
    have HC2 := Lib.hid (C.sub (HS1.out.trans hs2))
    clear hm2 hs2 hb2 hH2 hm2' hol
    obtain ⟨va, vc, hva, hvc⟩ := HB2.out.shape
    rw [HO2.out] at hva hvc
    subst hva
    go_wp2_with fail
    refine (made10_ok HC2.out (qa + 1) (by omega) (by omega) 0 (by omega) (.slice none 0 0) [] (.inl ⟨rfl, rfl⟩) [] rfl trivial (fun x hx => by cases hx) (by simp [sizes]) H2.out).mono ?_
    rintro e w3 ⟨dx, hx, P3, Ax, Adx, Dx, Hx, rfl, hs3, hMx, hDx, hOx, hd3, hseg3, hev3, -, hrm3, -, hn3, hnx, hH3⟩
    rw [hd3] at hDx
    have HS3 := Lib.hid (HS2.out.trans hs3)
    have HC3 := Lib.hid (HC2.out.sub hs3)
    have HB3 := Lib.hid (HB2.out.sub hs3)
    have HMX := Lib.hid hMx
    have HDX := Lib.hid hDx
    have HOX := Lib.hid hOx
    have HHX := Lib.hid (show Hx.d = dx ∧ Hx.seg = qa + 1 ∧ Hx.every = 60 ∧ Dx.room = 1048576 ∧ Dx.n ≤ 1 ∧ Hx.L ≠ [] from ⟨hd3, hseg3, hev3, hrm3, hn3, hnx⟩)
    have H3 := Lib.hid hH3
    clear hs3 hMx hDx hOx hd3 hseg3 hev3 hrm3 hn3 hnx hH3
    go_wp2_with fail
    refine (number_any c 60 (by omega) (by omega) _).mono ?_
    rintro e w' ⟨rfl, rfl⟩
    rw [HQC.out]
    go_wp2_with fail
    refine (darm_ok HDX.out qc (by omega) (Hp.mid H3.out)).mono ?_
    rintro e w5 ⟨rfl, Ad5, hD5, hH5⟩
    have hun := arm_un2 HOX.out.I.arm HOX.out.I.down qc
    have hlow0 : 0 ≤ Hx.low := by
      obtain ⟨L0, s, G, e⟩ : ∃ L0 s G, Hx.L = L0 ++ [(s, G)] := by
        rcases lastHl Hx.L with h | h
        · exact absurd h HHX.out.2.2.2.2.2
        · exact h
      have hfl := HOX.out.fl
      rw [e, List.map_append, List.flatten_append] at hfl
      have hgl : G.l = [] := by have := (List.append_eq_nil_iff.1 hfl).2; simpa using this
      rw [low_at e, hgl]
      exact Int.natCast_nonneg _
    have hrel : ∀ w', Hp w' P3 (Ax ++ (Ad5 ++ [])) → RcRel P3 hx dx (qa + 1) L n n (.int .i64 0) (.int .i64 0) w' := fun w' hw => ⟨0, P3, Ax, Ad5, _, Hx, 0, by omega, rfl, rfl, Sub.refl _, HMX.out, hD5, by rw [hun]; exact HOX.out, ⟨HHX.out.1, HHX.out.2.1, HHX.out.2.2.1, HHX.out.2.2.2.1, HHX.out.2.2.2.2.1, HHX.out.2.2.2.2.2⟩, ⟨Int.le_refl _, by omega, hlow0⟩, hw⟩
    have HREL := Lib.hid (hrel _ (Hp.mid hH5))
    clear hH5 hD5 hun hlow0 hrel
    go_wp2_with fail
    refine (number_any b 5 (by omega) (by omega) _).mono ?_
    rintro e w' ⟨rfl, rfl⟩
    rw [HQB.out]
    go_wp2_with fail
    go_loopg [15, 16] n (fun m vl vi wr => RcRel P3 hx dx (qa + 1) L n m vl vi wr)
    case atStart => exact HREL.out
    case round =>
      obtain ⟨i, P4, A, Ad, D, H, low, hi, rfl, rfl, hs4, hM, hD, hO, hX, hlow, hHr⟩ := hrel
      have HS4 := Lib.hid hs4
      have HM := Lib.hid hM
      have HD := Lib.hid hD
      have HO := Lib.hid hO
      have HX := Lib.hid hX
      have HLOW := Lib.hid hlow
      have HI := Lib.hid hi
      have HHR := Lib.hid hHr
      have hile : i ≤ n := by omega
      obtain ⟨oh, hoh⟩ : ∃ o, endOf ((0 : Nat) : Int) (L.take i) = o := ⟨_, rfl⟩
      have hohb := HOB.out i hile
      rw [hoh] at hohb
      obtain ⟨oh0, oh1⟩ := hohb
      have HOH := Lib.hid hoh
      obtain ⟨lo0, lo1, -⟩ := hlow
      clear hs4 hM hD hO hX hHr hoh
      by_cases hin : i < n
      case' pos =>
        clear hi
        obtain ⟨gj, rfl⟩ : ∃ x, gk = x + 1 := ⟨gk - 1, by have := HI.out; omega⟩
        have hio : i < out2.length := by rw [HO2.out]; exact hin
        have hiL : i < L.length := by rw [HLL.out]; exact hin
        obtain ⟨g, off, cap, hvv, hcap, hbc⟩ := HB3.out.at_ hio
        rw [HO2.out] at hvv hcap
        simp only [Value.slice.injEq] at hvv
        obtain ⟨rfl, -, rfl⟩ := hvv
        obtain ⟨x, hx0⟩ : ∃ x, L[i] = x := ⟨_, rfl⟩
        have hxi : (out2[i]'hio).1 = x := by
          have h1 : (out2.map (·.1))[i]? = some x := by rw [HM2.out, List.getElem?_eq_getElem hiL, hx0]
          rw [List.getElem?_map, List.getElem?_eq_getElem hio] at h1
          simpa using h1
        obtain ⟨p2, hp2⟩ : ∃ p2, (out2[i]'hio).2 = p2 := ⟨_, rfl⟩
        have hbc4 := hbc.sub HS4.out
        obtain ⟨-, c0, c1, c2, -⟩ := HHR.out.use hbc4
        rw [hxi] at c0 c1
        rw [hp2] at c2
        have hbv : Pers P4 (fun w => BtV w (.agg #[.int .i64 x.b, .int .i64 x.e, p2]) x) := hbc4.imp (fun w1 h => by
          obtain ⟨-, -, -, -, h5⟩ := h
          rw [hxi, hp2] at h5
          exact ⟨_, rfl, h5⟩)
        obtain ⟨pa, pl, pc, rfl⟩ : ∃ a l c, p2 = .slice a l c := by
          obtain ⟨r', h1, h2⟩ := HHR.out.use hbv
          cases h1
          obtain ⟨a, c, e⟩ := h2.shape
          exact ⟨a, _, c, e⟩
        obtain ⟨hxo, hxb⟩ := HOK.out x (by rw [← hx0]; exact List.getElem_mem _)
        have hsplit := (chain_app (L.take i) (L[i] :: L.drop (i + 1)) ((0 : Nat) : Int) 0).1 (by rw [take_split L i hiL]; exact HCH.out)
        have hxb0 : x.b = endOf ((0 : Nat) : Int) (L.take i) := by rw [← hx0]; exact hsplit.2.1
        have hxe0 : epOf 0 (L.take i) ≤ x.e := by rw [← hx0]; exact hsplit.2.2.1
        have hsk := sizes_take L i hiL
        rw [hx0] at hsk
        have htn := take_next L i hiL
        rw [hx0] at htn
        have hue : D.used = sizes (L.take i) := HO.out.used_eq
        have hup : D.used + szB x ≤ D.room := by rw [hue, HX.out.2.2.2.1]; have := HSZ.out; omega
        obtain ⟨K0, s0, G0, hK0⟩ : ∃ K0 s0 G0, H.L = K0 ++ [(s0, G0)] := by
          rcases lastHl H.L with h0 | h0
          · exact absurd h0 HX.out.2.2.2.2.2
          · exact h0
        have happ := happend_any (HC3.out.sub HS4.out) HM.out HO.out (by rw [HX.out.1]; exact HD.out) hK0 x hxo hxb _ hbv hxb0 hxe0 hup (by have := HX.out.2.2.2.2.1; omega) HHR.out
        have HAPP := Lib.hid happ
        have HXO := Lib.hid hxo
        have HTN := Lib.hid htn
        have j1 : (i : Int) < (n : Int) := by omega
        have j2 : (0 : Int) ≤ (i : Int) := by omega
        clear hx0 hxi hp2 hbc hbc4 hbv hxo hsplit hxb0 hxe0 hsk htn hue hup hK0 happ hio
        go_wp2_with fail
        refine HAPP.out.mono ?_
        rintro e w6 (⟨rfl, P6, A6, Ad6, D6, H6, hs6, hM6, hD6, hO6, hA6, hpo6, hlo6, hH6⟩ | ⟨rfl, P6, A6, Ad6, D6, H6, hs6, hM6, hD6, hgo6, hH6⟩)
        case' inl =>
          rw [HX.out.1] at hD6
          rw [← HTN.out] at hO6
          have hX6 : H6.d = dx ∧ H6.seg = qa + 1 ∧ H6.every = 60 ∧ D6.room = 1048576 ∧ D6.n ≤ i + 2 ∧ H6.L ≠ [] := ⟨hA6.d.trans HX.out.1, hA6.seg.trans HX.out.2.1, hA6.every.trans HX.out.2.2.1, (show D6.room = D.room from hA6.room).trans HX.out.2.2.2.1, by have h1 : D6.n ≤ D.n + 1 := hA6.n; have := HX.out.2.2.2.2.1; omega, hA6.ne⟩
          have hlo7 : low ≤ H6.low := Int.le_trans HLOW.out.2.2 hlo6
          have hend6 := hO6.hend hX6.2.2.2.2.2
          obtain ⟨on, hon⟩ : ∃ o, endOf ((0 : Nat) : Int) (L.take (i + 1)) = o := ⟨_, rfl⟩
          have honb := HOB.out (i + 1) (by omega)
          rw [hon] at honb hend6
          obtain ⟨on0, on1⟩ := honb
          obtain ⟨K6, s6, G6, hK6⟩ : ∃ K0 s0 G0, H6.L = K0 ++ [(s0, G0)] := by
            rcases lastHl H6.L with h0 | h0
            · exact absurd h0 hX6.2.2.2.2.2
            · exact h0
          have hS6 : Sub P3 P6 := HS4.out.trans hs6
          have hfl := hflush_any (HC3.out.sub hS6) hM6 hO6 (by rw [hX6.1]; exact hD6) hK6 hH6
          have HFL := Lib.hid hfl
          have HS6 := Lib.hid hS6
          have HK6 := Lib.hid hK6
          have HM6 := Lib.hid hM6
          have HD6 := Lib.hid hD6
          have HO6 := Lib.hid hO6
          have HX6 := Lib.hid hX6
          have HLO6 := Lib.hid hlo7
          have HON := Lib.hid hon
          have HEND6 := Lib.hid hend6
          have H6w := Lib.hid hH6
          clear hs6 hM6 hD6 hO6 hA6 hpo6 hlo6 hlo7 hH6 hX6 hfl hS6 hK6 hon hend6
          -- the rest of the round, behind the flush
          have hrest : ∀ (A7 Ad7 : Mm) (D7 : Dk) (H7 : Hl) (lo7 : Int) (w7 : World), HlM hx H7 A7 → DkM P6 dx D7 Ad7 → HotOn D7.un H7 ((0 : Nat) : Int) (L.take (i + 1)) → (H7.d = dx ∧ H7.seg = qa + 1 ∧ H7.every = 60 ∧ D7.room = 1048576 ∧ D7.n ≤ i + 2 ∧ H7.L ≠ []) → (0 ≤ lo7 ∧ lo7 ≤ 200 ∧ lo7 ≤ H7.low) → Hp w7 P6 (A7 ++ (Ad7 ++ [])) → RcRel P3 hx dx (qa + 1) L n gj (.int .i64 lo7) (.int .i64 ((i + 1 : Nat) : Int)) w7 := fun A7 Ad7 D7 H7 lo7 w7 q1 q2 q3 q4 q5 q6 => ⟨i + 1, P6, A7, Ad7, D7, H7, lo7, by have := HI.out; omega, rfl, rfl, HS6.out, q1, q2, q3, q4, q5, q6⟩
          have HREST := Lib.hid hrest
          clear hrest
          by_cases hm : (i : Int) % ((qb : Int) + 1) = 0
          case' pos =>
            go_wp2_with fail
            refine HFL.out.mono ?_
            rintro e w7 (⟨rfl, A7, Ad7, D7, hM7, hD7, hO7, hpo7, hrn7, hH7⟩ | ⟨rfl, Ad7, hD7, hpo7, hH7⟩)
            case' inl =>
              rw [HX6.out.1] at hD7
              obtain ⟨H7, hH7e⟩ : ∃ H, H = ({ H6 with L := K6 ++ [(s6, G6.syn)] } : Hl) := ⟨_, rfl⟩
              rw [← hH7e] at hM7 hO7
              have hL7 : H7.L = K6 ++ [(s6, G6.syn)] := by rw [hH7e]
              have hX7 : H7.d = dx ∧ H7.seg = qa + 1 ∧ H7.every = 60 ∧ D7.room = 1048576 ∧ D7.n ≤ i + 2 ∧ H7.L ≠ [] := by
                refine ⟨?_, ?_, ?_, hrn7.1.trans HX6.out.2.2.2.1, by rw [hrn7.2]; exact HX6.out.2.2.2.2.1, by rw [hL7]; simp⟩
                · rw [hH7e]; exact HX6.out.1
                · rw [hH7e]; exact HX6.out.2.1
                · rw [hH7e]; exact HX6.out.2.2.1
              have hend7 : H7.end_ = on := (hO7.hend hX7.2.2.2.2.2).trans HON.out
              have hlow7 : H7.low = on := by rw [hH7e]; exact (HO6.out.low_syn HK6.out).trans HON.out
              have hsy7 : synF G6.syn.kept G6.syn.base G6.syn.l = on := (low_at hL7).symm.trans hlow7
              obtain ⟨M7, hM7e⟩ : ∃ M, M = A7 ++ (Ad7 ++ []) := ⟨_, rfl⟩
              obtain ⟨sy, hsye⟩ : ∃ s, s = on := ⟨_, rfl⟩
              have hsyn : ∀ w', Hp w' P6 M7 → Calls Tryz.prog 38 #[ptr hx] w' fun e w'' => e = .returned (.int .i64 sy) ∧ Hp w'' P6 M7 := fun w' hx' => by
                rw [hM7e] at hx' ⊢
                have h1 := hsynced_on hM7 hO7.W hO7.lk hL7 hx'
                rw [hsy7, ← hsye] at h1
                exact h1
              have hr7 : ∀ w', Hp w' P6 M7 → RcRel P3 hx dx (qa + 1) L n gj (.int .i64 on) (.int .i64 ((i + 1 : Nat) : Int)) w' := fun w' hx' => by
                rw [hM7e] at hx'
                exact HREST.out A7 Ad7 D7 H7 on w' hM7 hD7 hO7 hX7 ⟨on0, on1, Int.le_of_eq hlow7.symm⟩ hx'
              have HSYN := Lib.hid hsyn
              have HR7 := Lib.hid hr7
              have HM7 := Lib.hid hM7
              have HW7 := Lib.hid hO7.W
              have HEND7 := Lib.hid hend7
              have H7w := Lib.hid hH7
              have HM7E := Lib.hid hM7e
              have hns : ¬ sy < on := by omega
              clear hM7 hD7 hO7 hpo7 hrn7 hH7 hH7e hL7 hX7 hend7 hlow7 hsy7 hM7e hsye hsyn hr7
              go_wp2_with fail
              refine (hend_ok HM7.out HW7.out H7w.out).mono ?_
              rintro e w8 ⟨rfl, hH8⟩
              rw [HEND7.out]
              rw [← HM7E.out] at hH8
              have H8 := Lib.hid hH8
              clear hH8
              go_wp2_with fail
            case' inr =>
              rw [HX6.out.1] at hD7
              have hO7 : HotOn D6.beg.un H6 ((0 : Nat) : Int) (L.take (i + 1)) := by rw [beg_un]; exact HO6.out
              obtain ⟨hbn, hbr⟩ := un_nr (D := D6.beg) (D' := D6) (beg_un D6)
              have hX7 : H6.d = dx ∧ H6.seg = qa + 1 ∧ H6.every = 60 ∧ D6.beg.room = 1048576 ∧ D6.beg.n ≤ i + 2 ∧ H6.L ≠ [] := ⟨HX6.out.1, HX6.out.2.1, HX6.out.2.2.1, hbr.trans HX6.out.2.2.2.1, by rw [hbn]; exact HX6.out.2.2.2.2.1, HX6.out.2.2.2.2.2⟩
              obtain ⟨M7, hM7e⟩ : ∃ M, M = A6 ++ (Ad7 ++ []) := ⟨_, rfl⟩
              obtain ⟨sy, hsye⟩ : ∃ s, synF G6.kept G6.base G6.l = s := ⟨_, rfl⟩
              have hns : ¬ sy < low := by
                have := HLO6.out
                rw [low_at HK6.out, hsye] at this
                omega
              have hsyn : ∀ w', Hp w' P6 M7 → Calls Tryz.prog 38 #[ptr hx] w' fun e w'' => e = .returned (.int .i64 sy) ∧ Hp w'' P6 M7 := fun w' hx' => by
                rw [hM7e] at hx' ⊢
                have h1 := hsynced_on HM6.out HO6.out.W HO6.out.lk HK6.out hx'
                rw [hsye] at h1
                exact h1
              have hr7 : ∀ w', Hp w' P6 M7 → RcRel P3 hx dx (qa + 1) L n gj (.int .i64 low) (.int .i64 ((i + 1 : Nat) : Int)) w' := fun w' hx' => by
                rw [hM7e] at hx'
                exact HREST.out A6 Ad7 D6.beg H6 low w' HM6.out hD7 hO7 hX7 ⟨lo0, lo1, HLO6.out⟩ hx'
              rw [← hM7e] at hH7
              have HSYN := Lib.hid hsyn
              have HR7 := Lib.hid hr7
              have H8 := Lib.hid hH7
              clear hD7 hO7 hpo7 hH7 hbn hbr hX7 hM7e hsye hsyn hr7
              go_wp2_with fail
          case' neg =>
            obtain ⟨M7, hM7e⟩ : ∃ M, M = A6 ++ (Ad6 ++ []) := ⟨_, rfl⟩
            obtain ⟨sy, hsye⟩ : ∃ s, synF G6.kept G6.base G6.l = s := ⟨_, rfl⟩
            have hns : ¬ sy < low := by
              have := HLO6.out
              rw [low_at HK6.out, hsye] at this
              omega
            have hsyn : ∀ w', Hp w' P6 M7 → Calls Tryz.prog 38 #[ptr hx] w' fun e w'' => e = .returned (.int .i64 sy) ∧ Hp w'' P6 M7 := fun w' hx' => by
              rw [hM7e] at hx' ⊢
              have h1 := hsynced_on HM6.out HO6.out.W HO6.out.lk HK6.out hx'
              rw [hsye] at h1
              exact h1
            have hr7 : ∀ w', Hp w' P6 M7 → RcRel P3 hx dx (qa + 1) L n gj (.int .i64 low) (.int .i64 ((i + 1 : Nat) : Int)) w' := fun w' hx' => by
              rw [hM7e] at hx'
              exact HREST.out A6 Ad6 D6 H6 low w' HM6.out HD6.out HO6.out HX6.out ⟨lo0, lo1, HLO6.out⟩ hx'
            have H8 : Hid (Hp w6 P6 M7) := by show Hp _ _ _; rw [hM7e]; exact H6w.out
            have HSYN := Lib.hid hsyn
            have HR7 := Lib.hid hr7
            clear hM7e hsye hsyn hr7
            go_wp2_with fail
          all_goals
            refine (HSYN.out _ H8.out).mono ?_
            rintro e w9 ⟨rfl, hH9⟩
            have HR9 := Lib.hid (HR7.out _ hH9)
            clear hH9
            go_wp2_with fail
            go_roundg gj
            case measure => have := HI.out; omega
            case rel => exact HR9.out
        case' inr =>
          rw [HX.out.1] at hD6
          have hn6 : D6.n ≤ i + 2 ∧ D6.room = 1048576 := ⟨by have h1 := hgo6.2.2.2.2.2.2.1.1; have := HX.out.2.2.2.2.1; omega, hgo6.2.2.2.2.2.2.1.2.trans HX.out.2.2.2.1⟩
          have hct := CrT.of_gone (S := S) (E := errAt W) (B := W.heap.size) hgo6 (by omega) (by rw [HOH.out]; omega) (hD6.blks_nd (Hp.mid hH6)) HLOW.out.2.2
          rw [hgo6.2.1, hgo6.2.2.1, hgo6.2.2.2.1, HX.out.1, HX.out.2.1, HX.out.2.2.1] at hct
          have hend6 : H6.end_ = oh := hgo6.endW.2.trans HOH.out
          have hw6 := hgo6.endW.1
          have HS6 := Lib.hid (HS4.out.trans hs6)
          have HM6 := Lib.hid hM6
          have HD6 := Lib.hid hD6
          have HN6 := Lib.hid hn6
          have HCT := Lib.hid hct
          have HEND6 := Lib.hid hend6
          have HW6 := Lib.hid hw6
          have H6w := Lib.hid hH6
          clear hs6 hM6 hD6 hgo6 hn6 hct hend6 hw6 hH6 j1 j2
          clear HAPP HXO HTN c0 c1 c2 hcap hiL
          go_wp2_with fail
      case' neg =>
        obtain ⟨P6, hP6⟩ : ∃ P, P = P4 := ⟨_, rfl⟩
        obtain ⟨A6, hA6⟩ : ∃ P, P = A := ⟨_, rfl⟩
        obtain ⟨Ad6, hAd6⟩ : ∃ P, P = Ad := ⟨_, rfl⟩
        obtain ⟨D6, hD6⟩ : ∃ P, P = D := ⟨_, rfl⟩
        obtain ⟨H6, hH6⟩ : ∃ P, P = H := ⟨_, rfl⟩
        rw [← hP6, ← hA6, ← hAd6] at HHR
        rw [← hP6] at HS4
        rw [← hP6, ← hAd6, ← hD6] at HD
        rw [← hA6, ← hH6] at HM
        rw [← hD6, ← hH6] at HO HX
        rw [← hH6] at HLOW
        clear hP6 hA6 hAd6 hD6 hH6
        have HN6 := Lib.hid (show D6.n ≤ i + 2 ∧ D6.room = 1048576 from ⟨by have := HX.out.2.2.2.2.1; omega, HX.out.2.2.2.1⟩)
        have hct := CrT.of_on (S := S) (E := errAt W) (B := W.heap.size) HO.out HX.out.2.2.2.2.2 (HD.out.blks_nd (Hp.mid HHR.out)) HLOW.out.2.2
        rw [HX.out.1, HX.out.2.1, HX.out.2.2.1] at hct
        have HEND6 := Lib.hid ((HO.out.hend HX.out.2.2.2.2.2).trans HOH.out)
        have HW6 := Lib.hid HO.out.W
        have HS6 := Lib.hid HS4.out
        have HM6 := Lib.hid HM.out
        have HD6 := Lib.hid HD.out
        have HCT := Lib.hid hct
        have H6w := Lib.hid HHR.out
        clear hct hi
        go_wp2_with fail
      all_goals
        refine (hend_ok HM6.out HW6.out H6w.out).mono ?_
        rintro e w7 ⟨rfl, hH7⟩
        rw [HEND6.out]
        have H7 := Lib.hid (Hp.mid hH7)
        clear hH7
        obtain ⟨hW6, hn6, hc6, hk6, hq6⟩ := HCT.out
        obtain ⟨q, hq⟩ : ∃ q, pickF ps 0 D6.ch.length = q := ⟨_, rfl⟩
        obtain ⟨hi6, hf6, hcr6⟩ := hq6 q
        have hcrash := crash_ok HD6.out hW6 hc6 hk6 q a4 ps cap4 hq hi6 hf6 (by omega) (HCQ.out.sub (HS3.out.trans HS6.out)) H7.out
        rw [HNP.out] at hcrash
        have HCRA := Lib.hid hcrash
        have HCR6 := Lib.hid hcr6
        clear hW6 hn6 hc6 hk6 hq6 hi6 hf6 hcrash hcr6 hq
        go_wp2_with fail
        refine HCRA.out.mono ?_
        rintro e w10 ⟨rfl, p, P10, Ad10, hp10, hs10, hD10, hH10⟩
        obtain ⟨L0, s, G, k, t, k3, hI10, hu10, hO10, hT10, hk3, hlo10⟩ := HCR6.out p hp10
        have hk3i : k3 ≤ i := by rw [List.length_take] at hk3; omega
        rw [List.take_take, Nat.min_eq_left hk3i] at hO10 hlo10
        obtain ⟨o3, ho3⟩ : ∃ o, endOf ((0 : Nat) : Int) (L.take k3) = o := ⟨_, rfl⟩
        rw [ho3] at hlo10
        have ho3h : o3 ≤ oh := by
          rw [← HOH.out, ← ho3]
          rcases Nat.lt_or_ge k3 i with h | h
          · exact Int.le_of_lt (endOf_mono HR.out HCH.out h (by rw [HLL.out]; exact hile))
          · rw [show k3 = i by omega]; exact Int.le_refl _
        have hr10 : (D6.crash q p).room = 1048576 := HN6.out.2
        have hn10 : (D6.crash q p).n ≤ i + 2 := HN6.out.1
        have hop := hopen_torn ((HC3.out.sub HS6.out).sub hs10) hD10 hI10 hu10 G.nm _ t hO10 hT10 (by omega) (by omega) hH10
        have HOP := Lib.hid hop
        have HRN := Lib.hid (And.intro hr10 hn10)
        have HO3 := Lib.hid ho3
        have HS10 := Lib.hid (HS6.out.trans hs10)
        clear hp10 hs10 hD10 hI10 hu10 hO10 hT10 hk3 hH10 ho3 hr10 hn10 hop
        go_wp2_with fail
        refine HOP.out.mono ?_
        rintro e w11 ⟨xh, P11, A11, Ad11, D11, Ln, rfl, hs11, hM11, hD11, hO11, hmap11, -, hr11, hn11, hH11⟩
        rw [HRN.out.1] at hr11
        have hn11' : D11.n ≤ i + 2 := by rw [hn11]; exact HRN.out.2
        obtain ⟨K1, s1, G1, hLn, hG1⟩ : ∃ K s G, Ln = K ++ [(s, G)] ∧ G.kept = sizes G.l := by
          rcases lastHl Ln with h | ⟨K, s', G', h⟩
          · rw [h] at hmap11
            have := congrArg List.length hmap11
            simp at this
          · refine ⟨K, s', G', h, ?_⟩
            rw [h, List.map_append, List.map_append] at hmap11
            obtain ⟨-, h2⟩ := List.append_inj' hmap11 rfl
            have h3 : G' = (G.cutK k).syn := by simpa using h2
            rw [h3]; rfl
        have hne11 : Ln ≠ [] := by rw [hLn]; simp
        have hsy11 : synF G1.kept G1.base G1.l = o3 := by rw [hG1, synF_all]; exact (hO11.lastEnd (H := ⟨dx, qa + 1, 60, Ln⟩) hLn).trans HO3.out
        obtain ⟨ln, hln⟩ : ∃ m, Ln.length = m := ⟨_, rfl⟩
        have hln0 : 0 < ln := by rw [← hln, hLn]; simp
        have hln9 : ln ≤ 1000000 := by have := hO11.small.2; dsimp only at this; omega
        obtain ⟨HX7, hHX⟩ : ∃ H, H = (⟨dx, qa + 1, 60, Ln⟩ : Hl) := ⟨_, rfl⟩
        have HXL : Hid (HX7.L = K1 ++ [(s1, G1)]) := by show _ = _; rw [hHX]; exact hLn
        have HXN : Hid (HX7.L.length = ln) := by show _ = _; rw [hHX]; exact hln
        rw [← hHX] at hM11
        have hO11' : HotOn D11 HX7 ((0 : Nat) : Int) (L.take k3) := by rw [hHX]; exact hO11
        have hne11' : HX7.L ≠ [] := by rw [hHX]; exact hne11
        have hend11 : HX7.end_ = o3 := (hO11'.hend hne11').trans HO3.out
        have hst11 : HX7.start = 0 := hO11'.hstart hne11'
        have hD11' : DkM P11 HX7.d D11 Ad11 := by rw [hHX]; exact hD11
        have HOL := Lib.hid hO11
        have HM11 := Lib.hid hM11
        have HD11 := Lib.hid hD11
        have HD11' := Lib.hid hD11'
        have HO11 := Lib.hid hO11'
        have HNE11 := Lib.hid hne11'
        have HEND11 := Lib.hid hend11
        have HST11 := Lib.hid hst11
        have HSY11 := Lib.hid hsy11
        have HRN11 := Lib.hid (And.intro hr11 hn11')
        have HS11 := Lib.hid (HS10.out.trans hs11)
        have H11 := Lib.hid hH11
        have HHX7 := Lib.hid hHX
        clear hs11 hM11 hD11 hD11' hO11 hO11' hmap11 hne11 hne11' hend11 hst11 hsy11 hH11 hHX hr11 hn11 hn11' hLn hG1 hln
        go_wp2_with fail
        refine (hend_ok HM11.out HO11.out.W H11.out).mono ?_
        rintro e w12 ⟨rfl, hH12⟩
        rw [HEND11.out]
        have H12 := Lib.hid hH12
        have hlt1 : ¬ o3 < low := by omega
        have hlt2 : ¬ oh < o3 := by omega
        clear hH12
        go_wp2_with fail
        refine (hend_ok HM11.out HO11.out.W H12.out).mono ?_
        rintro e w13 ⟨rfl, hH13⟩
        rw [HEND11.out]
        have H13 := Lib.hid hH13
        clear hH13
        go_wp2_with fail
        have hk3n : k3 ≤ n := by omega
        have hszk : sizes (L.take k3) ≤ 1048576 := by
          have h1 := sizes_mono L k3 L.length (by rw [HLL.out]; exact hk3n)
          rw [List.take_length] at h1
          exact Nat.le_trans h1 HSZ.out
        refine (all10_ok (HC3.out.sub HS11.out) HM11.out HO11.out HNE11.out HD11'.out hszk (by rw [List.length_take]; omega) H13.out).mono ?_
        rintro e w16 ⟨v16, out16, P16, rfl, hs16, hm16, hb16, hH16⟩
        obtain ⟨sa, sc, hva16, -⟩ := hb16.shape
        subst hva16
        have HM16 := Lib.hid hm16
        have HB16 := Lib.hid hb16
        have HS16 := Lib.hid (HS11.out.trans hs16)
        have HC16 := Lib.hid ((HC3.out.sub HS11.out).sub hs16)
        have HD16 := Lib.hid (HD11.out.sub hs16)
        have H16 := Lib.hid hH16
        clear hs16 hm16 hb16 hH16 hszk
        go_wp2_with fail
        refine (hsynced_on HM11.out HO11.out.W HO11.out.lk HXL.out H16.out).mono ?_
        rintro e w17 ⟨rfl, hH17⟩
        rw [HSY11.out]
        have H17 := Lib.hid hH17
        clear hH17
        go_wp2_with fail
        refine (hend_ok HM11.out HO11.out.W H17.out).mono ?_
        rintro e w18 ⟨rfl, hH18⟩
        rw [HEND11.out]
        have H18 := Lib.hid hH18
        clear hH18
        go_wp2_with fail
        refine (hstart_ok HM11.out HO11.out.W H18.out).mono ?_
        rintro e w19 ⟨rfl, hH19⟩
        rw [HST11.out]
        have H19 := Lib.hid hH19
        clear hH19
        go_wp2_with fail
        go_loopg [22] n (fun m vi wr => ∃ i : Nat, i + m = n ∧ i ≤ k3 ∧ vi = .int .i64 i ∧ Hp wr P16 (A11 ++ (Ad11 ++ (A6 ++ []))))
        case atStart => exact ⟨0, by omega, Nat.zero_le _, rfl, H19.out⟩
        case round =>
          obtain ⟨j, hj, hjk, rfl, hHr⟩ := hrel
          have HHR := Lib.hid hHr
          have HJ := Lib.hid hj
          clear hHr
          by_cases hjn : j < n
          case' pos =>
            clear hj
            obtain ⟨gj, rfl⟩ : ∃ x, gk = x + 1 := ⟨gk - 1, by have := HJ.out; omega⟩
            have hjo : j < out2.length := by rw [HO2.out]; exact hjn
            have hjL : j < L.length := by rw [HLL.out]; exact hjn
            obtain ⟨g, off, cap, hvv, hcap, hbc⟩ := HB3.out.at_ hjo
            rw [HO2.out] at hvv hcap
            simp only [Value.slice.injEq] at hvv
            obtain ⟨hvg, -, hvc'⟩ := hvv
            first | subst hvg | (simp only [Option.some.injEq, Addr.mk.injEq, and_true] at hvg; obtain ⟨rfl, rfl⟩ := hvg)
            subst hvc'
            obtain ⟨x, hx0⟩ : ∃ x, L[j] = x := ⟨_, rfl⟩
            have hxi : (out2[j]'hjo).1 = x := by
              have h1 : (out2.map (·.1))[j]? = some x := by rw [HM2.out, List.getElem?_eq_getElem hjL, hx0]
              rw [List.getElem?_map, List.getElem?_eq_getElem hjo] at h1
              simpa using h1
            obtain ⟨p2, hp2⟩ : ∃ p2, (out2[j]'hjo).2 = p2 := ⟨_, rfl⟩
            have hbc16 := hbc.sub HS16.out
            obtain ⟨-, c0, c1, c2, -⟩ := HHR.out.use hbc16
            rw [hxi] at c0 c1
            rw [hp2] at c2
            have hbv : Pers P16 (fun w => BtV w (.agg #[.int .i64 x.b, .int .i64 x.e, p2]) x) := hbc16.imp (fun w1 h => by
              obtain ⟨-, -, -, -, h5⟩ := h
              rw [hxi, hp2] at h5
              exact ⟨_, rfl, h5⟩)
            obtain ⟨hxo, -⟩ := HOK.out x (by rw [← hx0]; exact List.getElem_mem _)
            obtain ⟨nx, hnx⟩ : ∃ m, x.b + (x.r.length : Int) = m := ⟨_, rfl⟩
            have hnx2 : nx = endOf ((0 : Nat) : Int) (L.take (j + 1)) := by rw [← hnx, take_next L j hjL, hx0, endOf_snoc]
            have hcs : (j < k3 ∧ nx ≤ o3) ∨ (j = k3 ∧ ¬ nx ≤ o3) := by
              rcases Nat.lt_or_ge j k3 with h | h
              · left
                refine ⟨h, ?_⟩
                rw [hnx2, ← HO3.out]
                rcases Nat.lt_or_ge (j + 1) k3 with h2 | h2
                · exact Int.le_of_lt (endOf_mono HR.out HCH.out h2 (by rw [HLL.out]; exact hk3n))
                · rw [show j + 1 = k3 by omega]; exact Int.le_refl _
              · right
                have he : j = k3 := by omega
                refine ⟨he, ?_⟩
                have := endOf_mono HR.out HCH.out (i := j) (j := j + 1) (by omega) hjL
                rw [← hnx2, he, HO3.out] at this
                omega
            have j1 : (j : Int) < (n : Int) := by omega
            have j2 : (0 : Int) ≤ (j : Int) := by omega
            have HBV := Lib.hid hbv
            have HXO := Lib.hid hxo
            have HNXT := Lib.hid hnx
            clear hbc hbc16 hx0 hxi hp2 hbv hxo hnx hnx2
            rcases hcs with ⟨q1, q2⟩ | ⟨q1, q2⟩
            case' inl =>
              go_wp2_with fail
              refine (rnext_any x (by have := HXO.out.b0; omega) (by have := HXO.out.b1; omega) (by have := HXO.out.n64; omega) _ _ (HHR.out.use HBV.out)).mono ?_
              rintro e w17 ⟨rfl, hb17⟩
              rw [HNXT.out]
              have H17 := Lib.hid (HHR.out.below hb17 (Nat.le_refl _))
              clear hb17
              go_wp2_with fail
              refine (hend_ok HM11.out HO11.out.W H17.out).mono ?_
              rintro e w18 ⟨rfl, hH18⟩
              rw [HEND11.out]
              have H18 := Lib.hid hH18
              clear hH18
              go_wp2_with fail
              go_roundg gj
              case measure => have := HJ.out; omega
              case rel => exact ⟨j + 1, by have := HJ.out; omega, by omega, by simp, H18.out⟩
            case' inr =>
              have HQ1 := Lib.hid q1
              clear q1
              go_wp2_with fail
              refine (rnext_any x (by have := HXO.out.b0; omega) (by have := HXO.out.b1; omega) (by have := HXO.out.n64; omega) _ _ (HHR.out.use HBV.out)).mono ?_
              rintro e w17 ⟨rfl, hb17⟩
              rw [HNXT.out]
              have H17 := Lib.hid (HHR.out.below hb17 (Nat.le_refl _))
              clear hb17
              go_wp2_with fail
              refine (hend_ok HM11.out HO11.out.W H17.out).mono ?_
              rintro e w18 ⟨rfl, hH18⟩
              rw [HEND11.out]
              have H18 := Lib.hid hH18
              clear hH18 HBV HXO HNXT c0 c1 c2
              have hjk3 : j = k3 := HQ1.out
              subst hjk3
              have r1 : Pers P16 (fun w => BtsR w (.slice sa out16.length sc) (L.take j)) := by
                have := HB16.out.read
                rw [HM16.out] at this
                exact this
              have r2 : Pers P16 (fun w => BtsR w (.slice (some ⟨g, off, none⟩) j vc) (L.take j)) := by
                have := ((HB3.out.sub HS16.out).take j (by rw [HO2.out]; omega)).read
                rw [List.map_take, HM2.out] at this
                exact this
              have hjo := fun w' (hx : Hp w' P16 (A11 ++ (Ad11 ++ (A6 ++ [])))) => joined10_ok (hx.use r1) (hx.use r2) (by rw [List.length_take]; have := HLL.out; omega) (fun x hx => (HOK.out x (List.mem_of_mem_take hx)).1.sm)
              have HJO := Lib.hid hjo
              have l1 : (j : Int) ≤ (vc : Int) := by omega
              have hjn2 : j ≤ n := by omega
              clear r1 r2 hjo
              go_wp2_with fail
              refine (HJO.out _ H18.out).mono ?_
              rintro e w19 ⟨rfl, hb19⟩
              have H20 := Lib.hid (H18.out.below hb19 (Nat.le_refl _))
              clear hb19 HQ1 HJ HJO
              go_wp2_with fail
          case' neg =>
            have hjk3 : j = k3 := by omega
            subst hjk3
            try (exfalso; omega)
            all_goals
              have H18 := Lib.hid HHR.out
              have j3 : ¬ (j : Int) < (n : Int) := by omega
              have hjn2 : j ≤ n := by omega
              have hjne : j = n := by omega
              have HJN := Lib.hid hjne
              have j2 : (0 : Int) ≤ (j : Int) := by omega
              clear hj hjne hjn
              have r1 : Pers P16 (fun w => BtsR w (.slice sa out16.length sc) (L.take j)) := by
                have := HB16.out.read
                rw [HM16.out] at this
                exact this
              have HR1 := Lib.hid r1
              clear r1
              have hbp := HB3.out
              unfold BtsP at hbp
              rcases hbp with ⟨e1, -⟩ | ⟨g, off, cap, e1, e2, -, -⟩
              case' inl =>
                simp only [Value.slice.injEq] at e1
                obtain ⟨hva0, hn0, hvc0⟩ := e1
                first | subst hva0 | (exfalso; simp at hva0; done)
                all_goals
                  subst hvc0
                  have hj0 : j = 0 := HJN.out.trans hn0
                  have l1 : (j : Int) ≤ ((0 : Nat) : Int) := by omega
                  have hjo := fun w' (hx : Hp w' P16 (A11 ++ (Ad11 ++ (A6 ++ [])))) => joined10_ok (v2 := .slice none j 0) (hx.use HR1.out) (by rw [hj0, List.take_zero]; exact .inl ⟨rfl, rfl⟩) (by rw [List.length_take]; have := HLL.out; omega) (fun x hx => (HOK.out x (List.mem_of_mem_take hx)).1.sm)
                  have HJO := Lib.hid hjo
                  clear hjo hj0 hn0
                  go_wp2_with fail
              case' inr =>
                rw [HO2.out] at e1 e2
                simp only [Value.slice.injEq] at e1
                obtain ⟨hvg, -, hvc'⟩ := e1
                first | subst hvg | (simp only [Option.some.injEq, Addr.mk.injEq, and_true] at hvg; obtain ⟨rfl, rfl⟩ := hvg)
                subst hvc'
                have r2 : Pers P16 (fun w => BtsR w (.slice (some ⟨g, off, none⟩) j vc) (L.take j)) := by
                  have := ((HB3.out.sub HS16.out).take j (by rw [HO2.out]; omega)).read
                  rw [List.map_take, HM2.out] at this
                  exact this
                have hjo := fun w' (hx : Hp w' P16 (A11 ++ (Ad11 ++ (A6 ++ [])))) => joined10_ok (hx.use HR1.out) (hx.use r2) (by rw [List.length_take]; have := HLL.out; omega) (fun x hx => (HOK.out x (List.mem_of_mem_take hx)).1.sm)
                have HJO := Lib.hid hjo
                have l1 : (j : Int) ≤ (vc : Int) := by omega
                clear r2 hjo
                go_wp2_with fail
              all_goals
                refine (HJO.out _ H18.out).mono ?_
                rintro e w19 ⟨rfl, hb19⟩
                have H20 := Lib.hid (H18.out.below hb19 (Nat.le_refl _))
                clear hb19
                go_wp2_with fail
          all_goals
            refine (at10_ok (HB3.out.sub HS16.out) HM2.out HOK.out _ (by rw [HLL.out]; exact hjn2) (by rw [HLL.out]; omega) o3 HO3.out H20.out).mono ?_
            rintro e w20 ⟨rfl, hH20⟩
            have H21 := Lib.hid hH20
            clear hH20
            go_wp2_with fail
            refine (hend_ok HM11.out HO11.out.W H21.out).mono ?_
            rintro e w21 ⟨rfl, hH21⟩
            rw [HEND11.out]
            have H22 := Lib.hid (Hp.mid hH21)
            clear hH21
            go_wp2_with fail
            refine (hopen_on HC16.out HD16.out HOL.out (by omega) (by omega) H22.out).mono ?_
            rintro e w22 ⟨yh, P22, A22, Ad22, D22, Ln2, rfl, hs22, hM22, hD22, hO22, hmap22, -, hr22, hn22, hH22⟩
            have hl22 : Ln2.length = ln := by
              have h1 := congrArg List.length hmap22
              rw [List.length_map, List.length_map] at h1
              have h2 := HXN.out
              rw [HHX7.out] at h2
              exact h1.trans h2
            obtain ⟨HY, hHY⟩ : ∃ H, H = (⟨dx, qa + 1, 60, Ln2⟩ : Hl) := ⟨_, rfl⟩
            rw [← hHY] at hM22 hO22
            have hyn : HY.L.length = ln := by rw [hHY]; exact hl22
            have hyd : HY.d = dx := by rw [hHY]
            have hne22 : HY.L ≠ [] := fun h => by rw [h] at hyn; simp at hyn; omega
            have hend22 : HY.end_ = o3 := (hO22.hend hne22).trans HO3.out
            have HS22 := Lib.hid (HS16.out.trans hs22)
            have HC22 := Lib.hid (HC16.out.sub hs22)
            have HM22 := Lib.hid hM22
            have HD22 := Lib.hid hD22
            have HO22 := Lib.hid hO22
            have HYN := Lib.hid hyn
            have HYD := Lib.hid hyd
            have HNE22 := Lib.hid hne22
            have HEND22 := Lib.hid hend22
            have HRN22 := Lib.hid (show D22.room = 1048576 ∧ D22.n ≤ i + 2 from ⟨hr22.trans HRN11.out.1, by rw [hn22]; exact HRN11.out.2⟩)
            have H23 := Lib.hid hH22
            clear hs22 hM22 hD22 hO22 hmap22 hr22 hn22 hH22 hl22 hHY hyn hyd hne22 hend22
            go_wp2_with fail
            refine (hend_ok HM22.out HO22.out.W H23.out).mono ?_
            rintro e w24 ⟨rfl, hH24⟩
            rw [HEND22.out]
            have H24 := Lib.hid (hH24.perm (perm_t _ _ _ _))
            clear hH24
            go_wp2_with fail
            refine (hend_ok HM11.out HO11.out.W H24.out).mono ?_
            rintro e w25 ⟨rfl, hH25⟩
            rw [HEND11.out]
            have H25 := Lib.hid (hH25.perm (perm_t _ _ _ _).symm)
            clear hH25
            go_wp2_with fail
            refine (hsegs_ok HM22.out HO22.out.W H25.out).mono ?_
            rintro e w26 ⟨v26, At26, rfl, ht26, hH26⟩
            have ht26' : RowM 60 3 v26 ln (triV (HY.L.map fun p => triG p.2)) At26 := by
              have := ht26
              unfold TriM at this
              simpa [HYN.out] using this
            obtain ⟨ta, tc, rfl⟩ := ht26'.shape
            have H26 := Lib.hid (hH26.drop.perm (perm_t _ _ _ _))
            clear hH26 ht26 ht26'
            go_wp2_with fail
            refine (hsegs_ok HM11.out HO11.out.W H26.out).mono ?_
            rintro e w27 ⟨v27, At27, rfl, ht27, hH27⟩
            have ht27' : RowM 60 3 v27 ln (triV (HX7.L.map fun p => triG p.2)) At27 := by
              have := ht27
              unfold TriM at this
              simpa [HXN.out] using this
            obtain ⟨tb, td, rfl⟩ := ht27'.shape
            have H27 := Lib.hid (hH27.drop.perm (perm_t _ _ _ _).symm)
            clear hH27 ht27 ht27'
            go_wp2_with fail
            refine (hsegs_ok HM22.out HO22.out.W H27.out).mono ?_
            rintro e w28 ⟨v28, At28, rfl, ht28, hH28⟩
            have ht28' : RowM 60 3 v28 ln (triV (HY.L.map fun p => triG p.2)) At28 := by
              have := ht28
              unfold TriM at this
              simpa [HYN.out] using this
            obtain ⟨te, tf, rfl⟩ := ht28'.shape
            have hrel2 : Rc2Rel P22 (A11 ++ (A6 ++ [])) yh dx L n (n - j) (.int .i64 j) w28 := ⟨j, P22, A22, Ad22, D22, HY, by omega, rfl, Sub.refl _, HM22.out, HD22.out, HO22.out, ⟨HYD.out, HRN22.out.1, by have := HRN22.out.2; omega, HNE22.out⟩, hH28.drop⟩
            have HREL2 := Lib.hid hrel2
            have z1 : ¬ (ln : Int) = 0 := by omega
            have z2 : ((ln : Int) == 0) = false := beq_eq_false_iff_ne.2 z1
            have z3 : ¬ ln = 0 := by omega
            clear hH28 ht28 ht28' hrel2
            go_wp2_with fail
            go_loopg [25] (n - j) (fun m vi wr => Rc2Rel P22 (A11 ++ (A6 ++ [])) yh dx L n m vi wr)
            case atStart => exact HREL2.out
            case round =>
              obtain ⟨i2, P4', A4, Ad4, D4, H4, hi2, rfl, hs4', hM4, hD4, hO4, hX4, hH4⟩ := hrel
              have HS4' := Lib.hid hs4'
              have HM4 := Lib.hid hM4
              have HD4 := Lib.hid hD4
              have HO4 := Lib.hid hO4
              have HX4 := Lib.hid hX4
              have HI2 := Lib.hid hi2
              have H4' := Lib.hid hH4
              clear hs4' hM4 hD4 hO4 hX4 hH4
              by_cases hin2 : i2 < n
              · clear hi2
                obtain ⟨gj, rfl⟩ : ∃ x, gk = x + 1 := ⟨gk - 1, by have := HI2.out; omega⟩
                have hio : i2 < out2.length := by rw [HO2.out]; exact hin2
                have hiL : i2 < L.length := by rw [HLL.out]; exact hin2
                obtain ⟨g', off', cap', hvv, hcap', hbc⟩ := HB3.out.at_ hio
                rw [HO2.out] at hvv hcap'
                simp only [Value.slice.injEq] at hvv
                obtain ⟨hvg, -, hvc'⟩ := hvv
                first | (simp only [Option.some.injEq, Addr.mk.injEq, and_true] at hvg; obtain ⟨rfl, rfl⟩ := hvg) | (exfalso; simp at hvg; done) | subst hvg
                all_goals
                  subst hvc'
                  obtain ⟨x, hx0⟩ : ∃ x, L[i2] = x := ⟨_, rfl⟩
                  have hxi : (out2[i2]'hio).1 = x := by
                    have h1 : (out2.map (·.1))[i2]? = some x := by rw [HM2.out, List.getElem?_eq_getElem hiL, hx0]
                    rw [List.getElem?_map, List.getElem?_eq_getElem hio] at h1
                    simpa using h1
                  obtain ⟨p2, hp2⟩ : ∃ p2, (out2[i2]'hio).2 = p2 := ⟨_, rfl⟩
                  have hbc4 := hbc.sub (HS22.out.trans HS4'.out)
                  obtain ⟨-, c0, c1, c2, -⟩ := H4'.out.use hbc4
                  rw [hxi] at c0 c1
                  rw [hp2] at c2
                  have hbv : Pers P4' (fun w => BtV w (.agg #[.int .i64 x.b, .int .i64 x.e, p2]) x) := hbc4.imp (fun w1 h => by
                    obtain ⟨-, -, -, -, h5⟩ := h
                    rw [hxi, hp2] at h5
                    exact ⟨_, rfl, h5⟩)
                  obtain ⟨pa, pl, pc, rfl⟩ : ∃ a l c, p2 = .slice a l c := by
                    obtain ⟨r', h1, h2⟩ := H4'.out.use hbv
                    cases h1
                    obtain ⟨a, c, e⟩ := h2.shape
                    exact ⟨a, _, c, e⟩
                  obtain ⟨hxo, hxb⟩ := HOK.out x (by rw [← hx0]; exact List.getElem_mem _)
                  have hsplit := (chain_app (L.take i2) (L[i2] :: L.drop (i2 + 1)) ((0 : Nat) : Int) 0).1 (by rw [take_split L i2 hiL]; exact HCH.out)
                  have hxb0 : x.b = endOf ((0 : Nat) : Int) (L.take i2) := by rw [← hx0]; exact hsplit.2.1
                  have hxe0 : epOf 0 (L.take i2) ≤ x.e := by rw [← hx0]; exact hsplit.2.2.1
                  have hsk := sizes_take L i2 hiL
                  rw [hx0] at hsk
                  have htn := take_next L i2 hiL
                  rw [hx0] at htn
                  have hue : D4.used = sizes (L.take i2) := HO4.out.used_eq
                  have hup : D4.used + szB x ≤ D4.room := by rw [hue, HX4.out.2.1]; have := HSZ.out; omega
                  obtain ⟨K0, s0, G0, hK0⟩ : ∃ K0 s0 G0, H4.L = K0 ++ [(s0, G0)] := by
                    rcases lastHl H4.L with h0 | h0
                    · exact absurd h0 HX4.out.2.2.2
                    · exact h0
                  have happ := happend_on (HC22.out.sub HS4'.out) HM4.out HO4.out (by rw [HX4.out.1]; exact HD4.out) hK0 x hxo hxb _ hbv hxb0 hxe0 hup (by have := HX4.out.2.2.1; omega) H4'.out
                  have HAPP := Lib.hid happ
                  have HTN := Lib.hid htn
                  have j1 : (i2 : Int) < (n : Int) := by omega
                  have j2 : (0 : Int) ≤ (i2 : Int) := by omega
                  clear hx0 hxi hp2 hbc hbc4 hbv hxo hsplit hxb0 hxe0 hsk htn hue hup hK0 happ hio
                  go_wp2_with fail
                  refine HAPP.out.mono ?_
                  rintro e w30 ⟨rfl, P30, A30, Ad30, D30, H30, hs30, hM30, hD30, hO30, hA30, hH30⟩
                  rw [HX4.out.1] at hD30
                  rw [← HTN.out] at hO30
                  have hr30 : Rc2Rel P22 (A11 ++ (A6 ++ [])) yh dx L n gj (.int .i64 ((i2 + 1 : Nat) : Int)) w30 := ⟨i2 + 1, P30, A30, Ad30, D30, H30, by have := HI2.out; omega, rfl, HS4'.out.trans hs30, hM30, hD30, hO30, ⟨hA30.d.trans HX4.out.1, hA30.room.trans HX4.out.2.1, by have h1 := hA30.n; have := HX4.out.2.2.1; omega, hA30.ne⟩, hH30⟩
                  have HR30 := Lib.hid hr30
                  clear hs30 hM30 hD30 hO30 hA30 hH30 hr30
                  go_wp2_with fail
                  go_roundg gj
                  case measure => have := HI2.out; omega
                  case rel => exact HR30.out
              · have hi2n : i2 = n := by omega
                have HI2N := Lib.hid hi2n
                clear hi2n hi2
                obtain ⟨oe, hoe⟩ : ∃ o, endOf ((0 : Nat) : Int) (L.take i2) = o := ⟨_, rfl⟩
                have hend4 : H4.end_ = oe := (HO4.out.hend HX4.out.2.2.2).trans hoe
                have hoen : endOf ((0 : Nat) : Int) (L.take n) = oe := by rw [← HI2N.out]; exact hoe
                have HEND4 := Lib.hid hend4
                have HOEN := Lib.hid hoen
                clear hoe hend4 hoen
                go_wp2_with fail
                refine (hend_ok HM4.out HO4.out.W H4'.out).mono ?_
                rintro e w31 ⟨rfl, hH31⟩
                rw [HEND4.out]
                have H31 := Lib.hid hH31
                clear hH31
                go_wp2_with fail
                refine (at10_ok (HB3.out.sub (HS22.out.trans HS4'.out)) HM2.out HOK.out n (by rw [HLL.out]; exact Nat.le_refl _) (by rw [HLL.out]; omega) oe HOEN.out H31.out).mono ?_
                rintro e w32 ⟨rfl, hH32⟩
                have HBF := Lib.hid (hH32.to_below (HS3.out.trans (HS22.out.trans HS4'.out)))
                clear hH32
                go_wp2_with fail
                go_ret
                exact ⟨by simp, HBF.out⟩
end Go.Proofs.YtncjffkpkmjgkaaGreatDoor.Sg

/-! Cy -/
namespace Go.Proofs.YtncjffkpkmjgkaaGreatDoor.Sg
open Go.RowKit Er

def l12 : List Nat := [0, 1, 2, 3, 4, 5, 6, 7, 8, 9, 12, 14]
theorem l12_all : ∀ i, i < 10 ∨ i = 14 → i ∈ l12 := by
  intro i hi
  rcases hi with hi | rfl
  · have : ∀ j : Fin 10, j.val ∈ l12 := by decide
    exact this ⟨i, hi⟩
  · decide
theorem l19_all2 : ∀ i, i < 10 ∨ i = 14 → i ∈ List.range 19 := by intro i hi; rw [List.mem_range]; omega

theorem tab_of2 {rest : List (String × DataW Unit)} {W : World} (h : laidMet Tryz.prog (("math/bits.deBruijn32tab", Rows.laid_math_bits_deBruijn32tab) :: ("math/bits.deBruijn64tab", Rows.laid_math_bits_deBruijn64tab) :: ("internal/strconv.uint64pow10", Rows.laid_internal_strconv_uint64pow10) :: rest) W) :
    Lib.TabIs Tryz.prog W "internal/strconv.uint64pow10" .u64 Lib.pow10Tab ∧ laidMet Tryz.prog rest W := by
  have h2 := laidMet.tail (laidMet.tail h)
  refine ⟨?_, laidMet.tail h2⟩
  exact Lib.tabIs_of_head (zs := Lib.pow10Tab) (k := .u64) (g := 19) (t := 282) (e := 150) (n := 20) (by kernel_rfl) (by kernel_rfl) (by kernel_rfl) (by kernel_rfl) (by kernel_rfl) (by kernel_rfl) h2
theorem hlaid12 {W : World} (h : laidMet Tryz.prog Rows.hotRecoversRow.laid W) (hsz : gmax ≤ W.heap.size) : Lib.TabIs Tryz.prog W "internal/strconv.uint64pow10" .u64 Lib.pow10Tab ∧ Errs l12 W (errAt W) W.heap.size := by
  obtain ⟨h1, h2⟩ := tab_of2 h
  exact ⟨h1, errs_of_laid l12 (by decide) h2 hsz⟩
theorem hlaid19 {W : World} (h : laidMet Tryz.prog Rows.hotDropsRow.laid W) (hsz : gmax ≤ W.heap.size) : Lib.TabIs Tryz.prog W "internal/strconv.uint64pow10" .u64 Lib.pow10Tab ∧ Errs (List.range 19) W (errAt W) W.heap.size := by
  obtain ⟨h1, h2⟩ := tab_of2 h
  exact ⟨h1, errs_of_laid (List.range 19) (by decide) h2 hsz⟩

end Go.Proofs.YtncjffkpkmjgkaaGreatDoor.Sg

/-! HotRecoversRow -/
namespace Go.Proofs.YtncjffkpkmjgkaaGreatDoor.hotRecovers
open Go.ChangeShapes Go.WideShapes Go.ChangeAt Go.RowKit
open Go.Proofs.YtncjffkpkmjgkaaGreatDoor.Sg
set_option linter.unusedVariables false
set_option maxRecDepth 100000 in
theorem contract (H : Type) (enc : TypeId × Value → H) (W : World) (base : Nat) (args : Array Value) (ds gs : List (DataW H)) (before : List MemPlace)
    (hval0 : ∀ (j : Nat) t v, Tryz.f5.params[j]? = some t → args[j]? = some v → Value.okWide Tryz.prog W .any base t v)
    (hW : DataW.Whole enc Tryz.prog Tryz.f5.params.toList Rows.hotRecoversSpec.vars false W args.toList ds gs before) (hL : laidMetH Tryz.prog Rows.hotRecoversRow.laid W) (hsh : W.ShapedOpen Tryz.prog) :
    Calls Tryz.prog 5 args W fun e W' => ∃ v, e = .returned v ∧ Rows.hotRecoversSpec.post enc Tryz.prog Tryz.f5 false true false false W args v W' := by
  have hval : ∀ (j : Nat) t v, Tryz.f5.params[j]? = some t → args[j]? = some v → Value.okWide Tryz.prog W .any base t v := hval0
  have hW' := hW
  obtain ⟨p, q, hA0, hV, rfl, hfz, hnd⟩ := hW
  have hA : DataW.TrodAll enc Tryz.prog W 0 (fun _ => true) true Tryz.f5.params.toList args.toList ds p := hA0
  rw [Tryz.params5] at hA hval
  obtain ⟨v0, vs0, d0, ds0, p0, q0, hargs, rfl, rfl, h0, r0⟩ := trodAll_cons hA
  obtain ⟨v1, vs1, d1, ds1, p1, q1, rfl, rfl, rfl, h1, r1⟩ := trodAll_cons r0
  obtain ⟨v2, vs2, d2, ds2, p2, q2, rfl, rfl, rfl, h2, r2⟩ := trodAll_cons r1
  obtain ⟨v3, vs3, d3, ds3, p3, q3, rfl, rfl, rfl, h3, r3⟩ := trodAll_cons r2
  obtain ⟨v4, vs4, d4, ds4, p4, q4, rfl, rfl, rfl, h4, r4⟩ := trodAll_cons r3
  obtain ⟨rfl, rfl, rfl⟩ := trodAll_nil r4
  obtain rfl : args = #[v0, v1, v2, v3, v4] := by cases args; simp_all
  obtain ⟨rfl, rfl⟩ := trodVars_none hV
  obtain ⟨a0, len0, cap0, rfl⟩ := okWide_slice Tryz.underlying50 (hval 0 50 v0 rfl rfl)
  have k0 := h0
  have lt0 : ∀ x ∈ p0, x.block < W.heap.size := by obtain ⟨m, hm⟩ := k0; exact DataW.trod_lt m _ _ _ hm
  obtain ⟨z0, w0⟩ : ∃ zs, IsRow W a0 len0 cap0 zs := by
    obtain ⟨fuel, hf⟩ := h0
    rcases open_ints Tryz.underlying50 Tryz.underlying3 (by kernel_rfl) hf with ⟨hcs, _⟩ | ⟨x, l, c, zs, hcs, _, hl, hm, hz, _, hcell, hwz⟩
    · simp [Value.cells] at hcs
      obtain ⟨rfl, rfl, rfl⟩ := hcs
      exact ⟨[], .inl ⟨rfl, rfl, rfl, rfl⟩⟩
    · simp [Value.cells] at hcs
      obtain ⟨rfl, rfl, rfl⟩ := hcs
      exact ⟨zs, .inr ⟨_, rfl, hl, hm, by simpa using hz, hcell, hwz⟩⟩
  obtain ⟨a1, rfl, rfl, rfl, w1⟩ := open_int Tryz.underlying3 (hval 1 3 v1 rfl rfl) h1
  obtain ⟨a2, rfl, rfl, rfl, w2⟩ := open_int Tryz.underlying3 (hval 2 3 v2 rfl rfl) h2
  obtain ⟨a3, rfl, rfl, rfl, w3⟩ := open_int Tryz.underlying3 (hval 3 3 v3 rfl rfl) h3
  obtain ⟨a4, len4, cap4, rfl⟩ := okWide_slice Tryz.underlying50 (hval 4 50 v4 rfl rfl)
  have k4 := h4
  have lt4 : ∀ x ∈ p4, x.block < W.heap.size := by obtain ⟨m, hm⟩ := k4; exact DataW.trod_lt m _ _ _ hm
  obtain ⟨z4, w4⟩ : ∃ zs, IsRow W a4 len4 cap4 zs := by
    obtain ⟨fuel, hf⟩ := h4
    rcases open_ints Tryz.underlying50 Tryz.underlying3 (by kernel_rfl) hf with ⟨hcs, _⟩ | ⟨x, l, c, zs, hcs, _, hl, hm, hz, _, hcell, hwz⟩
    · simp [Value.cells] at hcs
      obtain ⟨rfl, rfl, rfl⟩ := hcs
      exact ⟨[], .inl ⟨rfl, rfl, rfl, rfl⟩⟩
    · simp [Value.cells] at hcs
      obtain ⟨rfl, rfl, rfl⟩ := hcs
      exact ⟨zs, .inr ⟨_, rfl, hl, hm, by simpa using hz, hcell, hwz⟩⟩
  have hL0 := hL
  rw [MakeChecks.laidMetH_plain _ _ _ (by kernel_rfl)] at hL0
  obtain ⟨hT, hE⟩ := hlaid12 (W := W) hL0 (Er.gmax_le hsh)
  clear hA0 hval0
  refine (hotrecovers_all a0 len0 cap0 z0 a1 a2 a3 a4 len4 cap4 z4 W w0 w4 l12_all hE hT).mono fun e W' ⟨he, bel⟩ => ?_
  subst he
  exact ⟨_, rfl, _, _, _, [], _, [], hW', trodAll_mk1 (shut_bool Tryz.underlying4 _), (trodAll_cons_mk (Below.trod laidOut (by kernel_rfl) (of_decide_eq_true (by kernel_rfl)) k0 bel lt0) (trodAll_cons_mk (shut_int Tryz.underlying3 w1) (trodAll_cons_mk (shut_int Tryz.underlying3 w2) (trodAll_cons_mk (shut_int Tryz.underlying3 w3) (trodAll_cons_mk (Below.trod laidOut (by kernel_rfl) (of_decide_eq_true (by kernel_rfl)) k4 bel lt4) trodAll_mk0))))), rfl, bel.frame _, fun h => by cases h⟩

set_option maxRecDepth 100000 in
theorem lifted (os : Os) (started : os.Started) (H : Type) (enc : TypeId × Value → H) (F : Stop.Interp) :
    ReturnsInHanded {} Tryz.checked os 5 .any ((OpenSpec.ofChange Rows.hotRecoversSpec).preRow enc Tryz.prog Tryz.f5 Rows.hotRecoversRow.domain false Rows.hotRecoversRow.laid) (((OpenSpec.ofChange Rows.hotRecoversSpec).at F).post enc Tryz.prog Tryz.f5 false true false false) := by
  obtain ⟨places, hx⟩ := reads os enc
  refine returnsInHanded_of_row (C := Tryz.checked) (s := OpenSpec.ofChange Rows.hotRecoversSpec) own started (by kernel_rfl) Tryz.func5
    (witness_row_atRef (enc := enc) (C := Tryz.checked) false (World.doorLaid Tryz.prog 400 os) #[.slice none 0 0, .int .i64 0, .int .i64 0, .int .i64 0, .slice none 0 0] rfl (by kernel_rfl) (by kernel_rfl) (by kernel_rfl)
      (OpenSpec.preRow_of_cond 8 hx (by kernel_rfl) (fun k hk => by cases hk) (by kernel_rfl) (door_met os _))) ?_
  intro W base args ds gs before hval hW _ _ _ hL hsh _
  exact contract H enc W base args ds gs before hval hW hL hsh

theorem said : Rows.HotRecoversSaid :=
  OpenClaim.holds_of_cond 5 Tryz.f5 rfl rfl rfl rfl rfl rfl rfl ⟨rfl, rfl, rfl, rfl, rfl⟩ rfl rfl rfl rfl rfl (by kernel_rfl) Tryz.func5 closed
    (of_decide_eq_true (by kernel_rfl)) (by unfold Func.isWrapper; rw [if_neg (of_decide_eq_false (by kernel_rfl))]; exact ⟨rfl, rfl⟩)
    (fun os started H enc _ F => by rw [OpenClaim.pre_eq_preRow]; exact lifted os started H enc F)

theorem card : Rows.HotRecoversCardSaid :=
  Claim7.holds_tied_plain_at .later [] _ _ _ _ said (fun _ h => by cases h) (by kernel_rfl) (fun _ h => by cases h) hotRecovers_row_tie rfl ⟨rfl, rfl⟩ (by kernel_rfl) rfl plain (by kernel_rfl)

#print axioms card
end Go.Proofs.YtncjffkpkmjgkaaGreatDoor.hotRecovers
