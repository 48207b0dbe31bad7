/- cordwoodlaw7.SegReads answers true for every input. The statement SegReads of chapter 7 holds for every input: the call returns true and leaves its arguments as they were. -/
import Derived.Test.YtlkkagjpapjehaaGreatDoorMh
import Derived.Test.YtlkkagjpapjehaaGreatDoorMf
import Derived.Test.YtlkkagjpapjehaaGreatDoorCards
import Derived.Test.YtlkkagjpapjehaaGreatDoorTie
import Derived.ProofKit
import Derived.OpenShut
import Derived.LaidMore
import Derived.Deep.DeepWitnessRowRef

/-! Lr -/
namespace Go.Proofs.YtlkkagjpapjehaaGreatDoor.Sg
open Go.RowKit Er Go.Maps

/-- What holds at the head of SegReads's loop. -/
def ReadsRel (P : Pm) (F : Mm) (L : List Bt) (b : Int) (ix step m : Nat) (vr ve vt vi : Value) (w : World) : Prop :=
  ∃ (k : Nat) (P' : Pm) (Ax Ar : Mm), k + m = L.length ∧ vi = .int .i64 k ∧ ve = .int .i64 (endOf b (L.take k)) ∧ vt = .int .i64 (tm0 (L.take k)) ∧ Sub P P' ∧ IxM ix (ixF step (L.take k)) Ax ∧
    RowM 5 1 vr (sizes (L.take k)) (bcells (flatB (L.take k))) Ar ∧ Hp w P' (Ax ++ (Ar ++ F))

set_option maxRecDepth 100000 in
set_option maxHeartbeats 8000000 in
theorem reads_all (base0 : Int) (a0 : Option Addr) (len0 cap0 : Nat) (z0 : List Int) (every0 step0 off0 most : Int) (W : World) (h : IsRow W a0 len0 cap0 z0) (hm1 : -9223372036854775808 ≤ most) (hm2 : most ≤ 9223372036854775807)
    {S : List Nat} (hS : ∀ i, i < 10 ∨ i = 14 → i ∈ S) (hS19 : S = List.range 19) (hE : Errs S W (errAt W) W.heap.size)
    (hT : Lib.TabIs Tryz.prog W "internal/strconv.uint64pow10" .u64 Lib.pow10Tab) :
    Calls Tryz.prog 5 #[.int .i64 base0, .slice a0 len0 cap0, .int .i64 every0, .int .i64 step0, .int .i64 off0, .int .i64 most] W fun e W' => e = .returned (.bool true) ∧ Below W.heap.size W W' := by
  have C := ctx_start hS hE hT
  obtain ⟨xs, rfl, hC⟩ := isRow_C h
  have hCp := ints_pers hC
  have H0 : Hid (Hp W (Pm.start W) []) := Hp.start W
  clear h hC hE hT
  have HCP := Lib.hid hCp
  clear hCp
  by_cases hlen : 20 < xs.length
  · clear HCP
    go_enter Tryz.func5, Tryz.ntmps5
    go_wp2_with fail
    refine (first_ok C H0.out).mono ?_
    rintro e w1 ⟨rfl, P1, hs1, hH1⟩
    have H1 := Lib.hid hH1
    have HS1 := Lib.hid hs1
    clear hH1 hs1
    go_wp2_with fail
    refine (long_any base0 1073741824 (by omega) (by omega) _).mono ?_
    rintro e w2 ⟨rfl, rfl⟩
    have hb0 := Int.emod_nonneg base0 (show (1073741824 : Int) ≠ 0 by omega)
    have hb1 := Int.emod_lt_of_pos base0 (show 0 < (1073741824 : Int) by omega)
    obtain ⟨b, hb⟩ : ∃ b : Nat, base0 % 1073741824 = (b : Int) := ⟨(base0 % 1073741824).toNat, by omega⟩
    have hbq : b < 1073741824 := by omega
    rw [hb]
    clear hb hb0 hb1
    go_wp2_with fail
    refine (number_any step0 300 (by omega) (by omega) _).mono ?_
    rintro e w2 ⟨rfl, rfl⟩
    have hs0 := Int.emod_nonneg step0 (show ((300 : Nat) : Int) ≠ 0 by omega)
    have hs1 := Int.emod_lt_of_pos step0 (show 0 < ((300 : Nat) : Int) by omega)
    obtain ⟨st, hst⟩ : ∃ s : Nat, step0 % ((300 : Nat) : Int) = (s : Int) := ⟨(step0 % ((300 : Nat) : Int)).toNat, by omega⟩
    have hsq : st < 300 := by omega
    rw [hst]
    clear hst hs0 hs1
    have HB := Lib.hid (H1.out.to_below HS1.out)
    go_wp2_with fail
    go_ret
    exact ⟨rfl, HB.out⟩
  have hl1 : xs.length ≤ 20 := by omega
  clear hlen
  go_enter Tryz.func5, Tryz.ntmps5
  go_wp2_with fail
  refine (first_ok C H0.out).mono ?_
  rintro e w1 ⟨rfl, P1, hs1, hH1⟩
  have H1 := Lib.hid hH1
  have HS1 := Lib.hid hs1
  clear hH1 hs1
  go_wp2_with fail
  refine (long_any base0 1073741824 (by omega) (by omega) _).mono ?_
  rintro e w2 ⟨rfl, rfl⟩
  have hb0 := Int.emod_nonneg base0 (show (1073741824 : Int) ≠ 0 by omega)
  have hb1 := Int.emod_lt_of_pos base0 (show 0 < (1073741824 : Int) by omega)
  obtain ⟨b, hb⟩ : ∃ b : Nat, base0 % 1073741824 = (b : Int) := ⟨(base0 % 1073741824).toNat, by omega⟩
  have hbq : b < 1073741824 := by omega
  rw [hb]
  clear hb hb0 hb1
  go_wp2_with fail
  refine (number_any step0 300 (by omega) (by omega) _).mono ?_
  rintro e w2 ⟨rfl, rfl⟩
  have hs0 := Int.emod_nonneg step0 (show ((300 : Nat) : Int) ≠ 0 by omega)
  have hs1 := Int.emod_lt_of_pos step0 (show 0 < ((300 : Nat) : Int) by omega)
  obtain ⟨st, hst⟩ : ∃ s : Nat, step0 % ((300 : Nat) : Int) = (s : Int) := ⟨(step0 % ((300 : Nat) : Int)).toNat, by omega⟩
  have hsq : st < 300 := by omega
  rw [hst]
  clear hst hs0 hs1
  go_wp2_with fail
  refine (number_any every0 4 (by omega) (by omega) _).mono ?_
  rintro e w2 ⟨rfl, rfl⟩
  have he0 := Int.emod_nonneg every0 (show ((4 : Nat) : Int) ≠ 0 by omega)
  have he1 := Int.emod_lt_of_pos every0 (show 0 < ((4 : Nat) : Int) by omega)
  obtain ⟨ev, hev⟩ : ∃ s : Nat, every0 % ((4 : Nat) : Int) = (s : Int) := ⟨(every0 % ((4 : Nat) : Int)).toNat, by omega⟩
  have heq : ev < 4 := by omega
  rw [hev]
  clear hev he0 he1
  obtain ⟨hch, hok, hsz, hn1, hn2⟩ := row20b ev xs b (by omega) hl1
  have htm := row_tm ev xs 0 (b : Int)
  obtain ⟨L, hLd⟩ : ∃ L, L = rowGo ev xs 0 (b : Int) := ⟨_, rfl⟩
  rw [← hLd] at hch hok hsz hn1 hn2 htm
  have HLD := Lib.hid hLd
  have HCH := Lib.hid hch
  have HOK := Lib.hid hok
  have HSZ := Lib.hid hsz
  have HTM := Lib.hid htm
  obtain ⟨en, hen⟩ : ∃ en, endOf (b : Int) L = en := ⟨_, rfl⟩
  rw [hen] at hn1 hn2
  have HEN := Lib.hid hen
  clear hLd hch hok hsz hen htm
  go_wp2_with fail
  refine (row_p H1.out a0 xs cap0 (HCP.out.sub HS1.out) ev (by omega) (by omega) (b : Int) (by omega) (by omega)).mono ?_
  rintro e w2 ⟨v2, P2, out2, rfl, hs2, hm2', hb2, hH2⟩
  have hm2'' : out2.map (·.1) = L := hm2'.trans HLD.out.symm
  have H2 := Lib.hid hH2
  have HB2 := Lib.hid hb2
  have HM2 := Lib.hid hm2''
  have HS2 := Lib.hid (HS1.out.trans hs2)
  have hLlen : L.length ≤ 20 := by rw [HLD.out, row_len]; exact hl1
  obtain ⟨n, hn⟩ : ∃ n, L.length = n := ⟨_, rfl⟩
  rw [hn] at hLlen
  have HN := Lib.hid hn
  have hon : out2.length = n := by rw [← hn, ← hm2'', List.length_map]
  have HON := Lib.hid hon
  obtain ⟨va, vc, rfl, hvc⟩ := hb2.shape
  rw [hon] at HB2 hvc ⊢
  clear hH2 hb2 hm2' hm2'' hs2 hn hon
  go_wp2_with fail
  have w300 : (st : Int) + 1 = ((st + 1 : Nat) : Int) := by omega
  rw [w300]
  refine (made_ok (C.sub HS2.out) b (by omega) (st + 1) (by omega) (by omega) _ out2 HB2.out L HM2.out HCH.out HOK.out HSZ.out H2.out).mono ?_
  rintro e w3 ⟨d, s, P3, A, Ad, D, rfl, hs3, hG, hD, hO, -, -, -, -, -, hH3⟩
  have HS3 := Lib.hid (HS2.out.trans hs3)
  have HB3 := Lib.hid (HB2.out.sub hs3)
  have H3 := Lib.hid hH3
  have HG := Lib.hid hG
  have HO := Lib.hid hO
  have HD := Lib.hid hD
  obtain ⟨stp, hstp⟩ : ∃ x, st + 1 = x := ⟨_, rfl⟩
  rw [hstp] at HG HO ⊢
  have hst1 : 1 ≤ stp := by omega
  have hst2 : stp ≤ 300 := by omega
  clear hs3 hH3 hG hO hD w300 hstp hsq
  go_wp2_with fail
  refine (ixnew_ok stp hst1 (by omega)).mono ?_
  rintro e w4 ⟨rfl, rfl⟩
  obtain ⟨ix, hix⟩ : ∃ x, w3.heap.size = x := ⟨_, rfl⟩
  have hH4 := H3.out.alloc (.cells (ixCells stp) 107)
  rw [hix] at hH4 ⊢
  obtain ⟨F0, hF0⟩ : ∃ F0, F0 = A ++ (Ad ++ []) := ⟨_, rfl⟩
  rw [← hF0] at hH4
  have H4 := Lib.hid hH4
  have HF0 := Lib.hid hF0
  clear hH4 hix hF0
  go_wp2_with fail
  go_loopg [17, 20, 21, 22] L.length (fun m vr ve vt vi wr => ReadsRel P3 F0 L (b : Int) ix stp m vr ve vt vi wr)
  case atStart => exact ⟨0, P3, _, [], by omega, rfl, rfl, rfl, Sub.refl P3, ix0_M stp ix, rowM_nil _ _, by simpa using H4.out⟩
  case round =>
    obtain ⟨k, P5, Ax, Ar, hk, rfl, rfl, rfl, hs5, hI, hr, hHr⟩ := hrel
    have hLn := HN.out
    by_cases hlt : k < n
    · obtain ⟨gj, rfl⟩ : ∃ x, gk = x + 1 := ⟨gk - 1, by omega⟩
      have hkl : k < L.length := by omega
      have hko : k < out2.length := by have := HON.out; omega
      obtain ⟨gl, ol, cap, hvv, hcp, hbc⟩ := HB3.out.at_ hko
      simp only [Value.slice.injEq] at hvv
      obtain ⟨rfl, -, rfl⟩ := hvv
      have hx : (out2[k]'hko).1 = L[k] := by have := HM2.out; subst this; simp
      obtain ⟨x, hxd⟩ : ∃ x, x = L[k] := ⟨_, rfl⟩
      obtain ⟨p2, hp2⟩ : ∃ p2, (out2[k]'hko).2 = p2 := ⟨_, rfl⟩
      rw [show out2[k]'hko = (x, p2) from Prod.ext (hx.trans hxd.symm) hp2] at hbc
      have hbc5 := hbc.sub hs5
      obtain ⟨-, c0, c1, c2, hrc⟩ := hHr.use hbc5
      obtain ⟨ra, rc, hrs⟩ := hrc.shape
      obtain rfl : p2 = .slice ra x.r.length rc := hrs
      have hbv : Pers P5 (fun w => BtV w (.agg #[.int .i64 x.b, .int .i64 x.e, .slice ra x.r.length rc]) x) := hbc5.imp (fun w1 h => ⟨_, rfl, h.2.2.2.2⟩)
      obtain ⟨hxo, hxb⟩ := HOK.out x (by rw [hxd]; exact List.getElem_mem hkl)
      have hio := ixF_ok stp L (fun x hx => (HOK.out x hx).1) HCH.out (by have := HSZ.out; omega) (by omega) (by omega) k hkl
      have hist := ixF_step stp L k hkl
      have hen := take_next L k hkl
      have hsk := sizes_take L k hkl
      rw [← hxd] at hio hist hen hsk
      have hszx := szB_pos x
      have hend : endOf (b : Int) (L.take (k + 1)) = x.b + x.r.length := by rw [hen, endOf_snoc]
      have htm0 : tm0 (L.take (k + 1)) = max (tm0 (L.take k)) (tmax x) := by rw [hen, tm0_snoc]
      have hsz2 : sizes (L.take (k + 1)) = sizes (L.take k) + szB x := by rw [hen, sizes_app]; simp [sizes]
      have hfl : flatB (L.take (k + 1)) = flatB (L.take k) ++ batB x := by rw [hen, flatB_app]; simp [flatB]
      obtain ⟨p, hp⟩ : ∃ p, sizes (L.take k) = p := ⟨_, rfl⟩
      obtain ⟨sx, hsx⟩ : ∃ p, szB x = p := ⟨_, rfl⟩
      obtain ⟨fl, hflq⟩ : ∃ p, flatB (L.take k) = p := ⟨_, rfl⟩
      obtain ⟨ek, hek⟩ : ∃ p, endOf (b : Int) (L.take k) = p := ⟨_, rfl⟩
      obtain ⟨tk, htk⟩ : ∃ p, tm0 (L.take k) = p := ⟨_, rfl⟩
      rw [hp] at hio hist hr hsk hsz2
      rw [hsx] at hsz2 hsk hszx
      rw [hflq] at hr hfl
      rw [htk] at htm0
      obtain ⟨rva, rvc, rfl⟩ := hr.shape
      have hszq := HSZ.out
      have j1 : (k : Int) < (n : Int) := by omega
      have j2 : (0 : Int) ≤ (k : Int) := by omega
      have hb0 := hxo.b0
      have hb1 := hxo.b1
      have hn64 := hxo.n64
      have HSX := Lib.hid hsx
      have HIO := Lib.hid hio
      have HIST := Lib.hid hist
      have HEND := Lib.hid hend
      have HTM0 := Lib.hid htm0
      have HSZ2 := Lib.hid hsz2
      have HFL := Lib.hid hfl
      have HI := Lib.hid hI
      have HR := Lib.hid hr
      have HHR := Lib.hid hHr
      have HBV := Lib.hid hbv
      have HBC := Lib.hid hbc5
      have HXO := Lib.hid hxo
      have HXB := Lib.hid hxb
      have HS5 := Lib.hid hs5
      have hsk3 : p + sx ≤ 1048576 := by omega
      rw [hek, htk]
      clear hbc hbc5 hrc hbv hxo hxb hio hist hen hsk hend htm0 hsz2 hfl hp hsx hflq hek htk hI hr hHr hs5 hx hxd hszq
      go_wp2_with fail
      refine (rbatch_any x HXO.out HXB.out _ _ (HHR.out.use HBV.out)).mono ?_
      rintro e w6 ⟨⟨v6, rfl, ho6⟩, hb6⟩
      obtain ⟨P6, hs6, hH6, hp6⟩ := HHR.out.newBytes hb6 ho6
      have hbl : (batB x).length = sx := HSX.out
      obtain ⟨bva, bvc, rfl, hbvc⟩ := (hH6.use hp6).shape
      rw [hbl] at hp6 hbvc ⊢
      have HBL := Lib.hid hbl
      have H6 := Lib.hid hH6
      have HP6 := Lib.hid hp6
      have HS6 := Lib.hid (HS5.out.trans hs6)
      have HS56 := Lib.hid hs6
      have HBC6 := Lib.hid (HBC.out.sub hs6)
      have HBV6 := Lib.hid (HBV.out.sub hs6)
      clear ho6 hb6 hH6 hp6 hs6 hbl c0 c1 c2
      go_wp2_with fail
      refine wp_region_ph (by kernel_rfl) (by decide) 22 24 (by kernel_rfl) ⟨by decide, by decide⟩ (by decide) _ (fun b P w2 _ => match b with | 0 => Hp w2 P (Ax ++ (Ar ++ F0)) | _ => ∃ A3, IxM ix (ixF stp (L.take (k + 1))) A3 ∧ Hp w2 P (A3 ++ (Ar ++ F0))) (fun v => H6.out.drew) (fun i P v => match i with | 0 => v = ptr ix | 1 => v = .bool false | 2 => v = .bool false | 3 => v = .nilIface | 4 => v = .bool false | 5 => v = .bool false | 6 => v = .bool false | 7 => v = ptr ix | 8 => v = .slice (some ⟨gl, ol, none⟩) n vc | 9 => v = .int .i64 k | 10 => v = .pointer (some ⟨gl, ol + k * 3, none⟩) | 11 => v = .pointer (some ⟨gl, ol + k * 3, none⟩) | 12 => v = .int .i64 x.b | 13 => v = .slice (some ⟨gl, ol, none⟩) n vc | 14 => v = .int .i64 k | 15 => v = .pointer (some ⟨gl, ol + k * 3, none⟩) | 16 => v = .agg #[.int .i64 x.b, .int .i64 x.e, .slice ra x.r.length rc] | 17 => v = .int .i64 (tmax x) | 18 => v = .slice rva p rvc | 19 => v = .int .i64 p | 20 => v = .slice bva sx bvc | 21 => v = .int .i64 sx | 22 => v = .nilIface | 23 => v = .bool false | 24 => v = .bool false | _ => True) (by intro i P P' v hs h; exact h) ?_ ?_
      · intro i o ho b u w2 P2 hsq hJ hp q1 q2 q3 q4 K hK
        rcases i with _ | _ | _ | _ | _ | _ | _ | _ | _ | _ | _ | _ | _ | _ | _ | _ | _ | _ | _ | _ | _ | _ | _ | _ | _ | i
        · cases ho
          simp only [frOf, Act.put, List.setIfInBounds_toArray, List.set_cons_zero, List.set_cons_succ, Nat.zero_add, Nat.reduceAdd] at hK ⊢
          go_simp
          exact hK _ w2 P2 (Sub.refl _) hJ rfl
        · cases ho
          have h0 : u 0 = ptr ix := hp ⟨0, .data⟩ (by simp) rfl
          simp only [frOf, Act.put, List.setIfInBounds_toArray, List.set_cons_zero, List.set_cons_succ, Nat.zero_add, Nat.reduceAdd] at hK ⊢
          simp only [h0] at hK ⊢
          go_simp
          exact hK _ w2 P2 (Sub.refl _) hJ rfl
        · cases ho
          have h1 : u 1 = .bool false := hp ⟨1, .data⟩ (by simp) rfl
          simp only [frOf, Act.put, List.setIfInBounds_toArray, List.set_cons_zero, List.set_cons_succ, Nat.zero_add, Nat.reduceAdd] at hK ⊢
          simp only [h1] at hK ⊢
          go_simp
          exact hK _ w2 P2 (Sub.refl _) hJ rfl
        · cases ho
          have h2 : u 2 = .bool false := hp ⟨2, .guard⟩ (by simp) rfl
          simp only [frOf, Act.put, List.setIfInBounds_toArray, List.set_cons_zero, List.set_cons_succ, Nat.zero_add, Nat.reduceAdd] at hK ⊢
          simp only [h2] at hK ⊢
          go_simp
          exact hK _ w2 P2 (Sub.refl _) hJ rfl
        · cases ho
          have h3 : u 3 = .nilIface := hp ⟨3, .data⟩ (by simp) rfl
          have h2 : u 2 = .bool false := hp ⟨2, .guard⟩ (by simp) rfl
          simp only [frOf, Act.put, List.setIfInBounds_toArray, List.set_cons_zero, List.set_cons_succ, Nat.zero_add, Nat.reduceAdd] at hK ⊢
          simp only [h3, h2] at hK ⊢
          go_simp
          exact hK _ w2 P2 (Sub.refl _) hJ rfl
        · cases ho
          have h2 : u 2 = .bool false := hp ⟨2, .data⟩ (by simp) rfl
          have h4 : u 4 = .bool false := hp ⟨4, .data⟩ (by simp) rfl
          simp only [frOf, Act.put, List.setIfInBounds_toArray, List.set_cons_zero, List.set_cons_succ, Nat.zero_add, Nat.reduceAdd] at hK ⊢
          simp only [h2, h4] at hK ⊢
          go_simp
          exact hK _ w2 P2 (Sub.refl _) hJ rfl
        · cases ho
          have h5 : u 5 = .bool false := hp ⟨5, .data⟩ (by simp) rfl
          simp only [frOf, Act.put, List.setIfInBounds_toArray, List.set_cons_zero, List.set_cons_succ, Nat.zero_add, Nat.reduceAdd] at hK ⊢
          simp only [h5] at hK ⊢
          go_simp
          exact hK _ w2 P2 (Sub.refl _) hJ rfl
        · cases ho
          have h6 : u 6 = .bool false := hp ⟨6, .guard⟩ (by simp) rfl
          simp only [frOf, Act.put, List.setIfInBounds_toArray, List.set_cons_zero, List.set_cons_succ, Nat.zero_add, Nat.reduceAdd] at hK ⊢
          simp only [h6] at hK ⊢
          go_simp
          exact hK _ w2 P2 (Sub.refl _) hJ rfl
        · cases ho
          have h6 : u 6 = .bool false := hp ⟨6, .guard⟩ (by simp) rfl
          simp only [frOf, Act.put, List.setIfInBounds_toArray, List.set_cons_zero, List.set_cons_succ, Nat.zero_add, Nat.reduceAdd] at hK ⊢
          simp only [h6] at hK ⊢
          go_simp
          exact hK _ w2 P2 (Sub.refl _) hJ rfl
        · cases ho
          have h6 : u 6 = .bool false := hp ⟨6, .guard⟩ (by simp) rfl
          simp only [frOf, Act.put, List.setIfInBounds_toArray, List.set_cons_zero, List.set_cons_succ, Nat.zero_add, Nat.reduceAdd] at hK ⊢
          simp only [h6] at hK ⊢
          go_simp
          exact hK _ w2 P2 (Sub.refl _) hJ rfl
        · cases ho
          have h8 : u 8 = .slice (some ⟨gl, ol, none⟩) n vc := hp ⟨8, .data⟩ (by simp) rfl
          have h9 : u 9 = .int .i64 k := hp ⟨9, .data⟩ (by simp) rfl
          have h6 : u 6 = .bool false := hp ⟨6, .guard⟩ (by simp) rfl
          simp only [frOf, Act.put, List.setIfInBounds_toArray, List.set_cons_zero, List.set_cons_succ, Nat.zero_add, Nat.reduceAdd] at hK ⊢
          simp only [h8, h9, h6] at hK ⊢
          go_simp
          exact hK _ w2 P2 (Sub.refl _) hJ rfl
        · cases ho
          have h10 : u 10 = .pointer (some ⟨gl, ol + k * 3, none⟩) := hp ⟨10, .data⟩ (by simp) rfl
          have h6 : u 6 = .bool false := hp ⟨6, .guard⟩ (by simp) rfl
          simp only [frOf, Act.put, List.setIfInBounds_toArray, List.set_cons_zero, List.set_cons_succ, Nat.zero_add, Nat.reduceAdd] at hK ⊢
          simp only [h10, h6] at hK ⊢
          go_simp
          exact hK _ w2 P2 (Sub.refl _) hJ rfl
        · cases ho
          have h11 : u 11 = .pointer (some ⟨gl, ol + k * 3, none⟩) := hp ⟨11, .data⟩ (by simp) rfl
          have h6 : u 6 = .bool false := hp ⟨6, .guard⟩ (by simp) rfl
          simp only [frOf, Act.put, List.setIfInBounds_toArray, List.set_cons_zero, List.set_cons_succ, Nat.zero_add, Nat.reduceAdd] at hK ⊢
          simp only [h11, h6] at hK ⊢
          obtain rfl : b = 0 := ph0 (fun h => nomatch ((q1 h).1.symm.trans (by kernel_rfl : _ = true)))
          have hH2 : Hp w2 P2 (Ax ++ (Ar ++ F0)) := hJ
          obtain ⟨-, kc0, kc1, kc2, -⟩ := hH2.use (HBC6.out.sub hsq)
          go_simp
          exact hK _ w2 P2 (Sub.refl _) hH2 rfl
        · cases ho
          have h6 : u 6 = .bool false := hp ⟨6, .guard⟩ (by simp) rfl
          simp only [frOf, Act.put, List.setIfInBounds_toArray, List.set_cons_zero, List.set_cons_succ, Nat.zero_add, Nat.reduceAdd] at hK ⊢
          simp only [h6] at hK ⊢
          go_simp
          exact hK _ w2 P2 (Sub.refl _) hJ rfl
        · cases ho
          have h6 : u 6 = .bool false := hp ⟨6, .guard⟩ (by simp) rfl
          simp only [frOf, Act.put, List.setIfInBounds_toArray, List.set_cons_zero, List.set_cons_succ, Nat.zero_add, Nat.reduceAdd] at hK ⊢
          simp only [h6] at hK ⊢
          go_simp
          exact hK _ w2 P2 (Sub.refl _) hJ rfl
        · cases ho
          have h13 : u 13 = .slice (some ⟨gl, ol, none⟩) n vc := hp ⟨13, .data⟩ (by simp) rfl
          have h14 : u 14 = .int .i64 k := hp ⟨14, .data⟩ (by simp) rfl
          have h6 : u 6 = .bool false := hp ⟨6, .guard⟩ (by simp) rfl
          simp only [frOf, Act.put, List.setIfInBounds_toArray, List.set_cons_zero, List.set_cons_succ, Nat.zero_add, Nat.reduceAdd] at hK ⊢
          simp only [h13, h14, h6] at hK ⊢
          go_simp
          exact hK _ w2 P2 (Sub.refl _) hJ rfl
        · cases ho
          have h15 : u 15 = .pointer (some ⟨gl, ol + k * 3, none⟩) := hp ⟨15, .data⟩ (by simp) rfl
          have h6 : u 6 = .bool false := hp ⟨6, .guard⟩ (by simp) rfl
          simp only [frOf, Act.put, List.setIfInBounds_toArray, List.set_cons_zero, List.set_cons_succ, Nat.zero_add, Nat.reduceAdd] at hK ⊢
          simp only [h15, h6] at hK ⊢
          obtain rfl : b = 0 := ph0 (fun h => nomatch ((q1 h).1.symm.trans (by kernel_rfl : _ = true)))
          have hH2 : Hp w2 P2 (Ax ++ (Ar ++ F0)) := hJ
          obtain ⟨-, kc0, kc1, kc2, -⟩ := hH2.use (HBC6.out.sub hsq)
          go_simp
          exact hK _ w2 P2 (Sub.refl _) hH2 rfl
        · cases ho
          have h16 : u 16 = .agg #[.int .i64 x.b, .int .i64 x.e, .slice ra x.r.length rc] := hp ⟨16, .data⟩ (by simp) rfl
          have h6 : u 6 = .bool false := hp ⟨6, .guard⟩ (by simp) rfl
          simp only [frOf, Act.put, List.setIfInBounds_toArray, List.set_cons_zero, List.set_cons_succ, Nat.zero_add, Nat.reduceAdd] at hK ⊢
          simp only [h16, h6] at hK ⊢
          obtain rfl : b = 0 := ph0 (fun h => nomatch ((q1 h).1.symm.trans (by kernel_rfl : _ = true)))
          have hH2 : Hp w2 P2 (Ax ++ (Ar ++ F0)) := hJ
          go_simp
          with_reducible refine (time_any x (by omega) _ _ (hH2.use (HBV6.out.sub hsq))).mono ?_
          rintro e w3 ⟨rfl, hb3⟩
          exact hK _ w3 P2 (Sub.refl _) (hH2.below hb3 (Nat.le_refl _)) rfl
        · cases ho
          have h6 : u 6 = .bool false := hp ⟨6, .guard⟩ (by simp) rfl
          simp only [frOf, Act.put, List.setIfInBounds_toArray, List.set_cons_zero, List.set_cons_succ, Nat.zero_add, Nat.reduceAdd] at hK ⊢
          simp only [h6] at hK ⊢
          go_simp
          exact hK _ w2 P2 (Sub.refl _) hJ rfl
        · cases ho
          have h18 : u 18 = .slice rva p rvc := hp ⟨18, .data⟩ (by simp) rfl
          have h6 : u 6 = .bool false := hp ⟨6, .guard⟩ (by simp) rfl
          simp only [frOf, Act.put, List.setIfInBounds_toArray, List.set_cons_zero, List.set_cons_succ, Nat.zero_add, Nat.reduceAdd] at hK ⊢
          simp only [h18, h6] at hK ⊢
          go_simp
          exact hK _ w2 P2 (Sub.refl _) hJ rfl
        · cases ho
          have h6 : u 6 = .bool false := hp ⟨6, .guard⟩ (by simp) rfl
          simp only [frOf, Act.put, List.setIfInBounds_toArray, List.set_cons_zero, List.set_cons_succ, Nat.zero_add, Nat.reduceAdd] at hK ⊢
          simp only [h6] at hK ⊢
          go_simp
          exact hK _ w2 P2 (Sub.refl _) hJ rfl
        · cases ho
          have h20 : u 20 = .slice bva sx bvc := hp ⟨20, .data⟩ (by simp) rfl
          have h6 : u 6 = .bool false := hp ⟨6, .guard⟩ (by simp) rfl
          simp only [frOf, Act.put, List.setIfInBounds_toArray, List.set_cons_zero, List.set_cons_succ, Nat.zero_add, Nat.reduceAdd] at hK ⊢
          simp only [h20, h6] at hK ⊢
          go_simp
          exact hK _ w2 P2 (Sub.refl _) hJ rfl
        · cases ho
          have h6 : u 6 = .bool false := hp ⟨6, .guard⟩ (by simp) rfl
          have h7 : u 7 = ptr ix := hp ⟨7, .data⟩ (by simp) rfl
          have h12 : u 12 = .int .i64 x.b := hp ⟨12, .data⟩ (by simp) rfl
          have h17 : u 17 = .int .i64 (tmax x) := hp ⟨17, .data⟩ (by simp) rfl
          have h19 : u 19 = .int .i64 p := hp ⟨19, .data⟩ (by simp) rfl
          have h21 : u 21 = .int .i64 sx := hp ⟨21, .data⟩ (by simp) rfl
          obtain rfl : b = 0 := ph0 (fun h => (q1 h).2 rfl)
          have hH2 : Hp w2 P2 (Ax ++ (Ar ++ F0)) := hJ
          simp only [frOf, Act.put, List.setIfInBounds_toArray, List.set_cons_zero, List.set_cons_succ, Nat.zero_add, Nat.reduceAdd] at hK ⊢
          simp only [h6, h7, h12, h17, h19, h21] at hK ⊢
          go_simp
          with_reducible refine (iadd_ok HI.out x.b (tmax x) p sx HIO.out (by omega) (by omega) hH2).mono ?_
          rintro e w3 ⟨rfl, A3, hI3, hH3⟩
          exact hK _ w3 P2 (Sub.refl _) ⟨A3, by rw [HIST.out]; exact hI3, hH3⟩ rfl
        · cases ho
          have h22 : u 22 = .nilIface := hp ⟨22, .data⟩ (by simp) rfl
          have h6 : u 6 = .bool false := hp ⟨6, .guard⟩ (by simp) rfl
          simp only [frOf, Act.put, List.setIfInBounds_toArray, List.set_cons_zero, List.set_cons_succ, Nat.zero_add, Nat.reduceAdd] at hK ⊢
          simp only [h22, h6] at hK ⊢
          go_simp
          exact hK _ w2 P2 (Sub.refl _) hJ rfl
        · cases ho
          have h6 : u 6 = .bool false := hp ⟨6, .data⟩ (by simp) rfl
          have h23 : u 23 = .bool false := hp ⟨23, .data⟩ (by simp) rfl
          obtain rfl : b = 1 := ph1 (q3 (by kernel_rfl)) (fun e => (q2 e).2 rfl) q4
          simp only [frOf, Act.put, List.setIfInBounds_toArray, List.set_cons_zero, List.set_cons_succ, Nat.zero_add, Nat.reduceAdd] at hK ⊢
          simp only [h6, h23] at hK ⊢
          go_simp
          exact hK _ w2 P2 (Sub.refl _) hJ rfl
        · exact absurd ho (by simp)
      · intro u w2 P2 hsq hJ hR
        have h24 : u 24 = .bool false := hR 24 (by decide)
        simp only [frOf, List.setIfInBounds_toArray, List.set_cons_zero, List.set_cons_succ, Nat.zero_add, Nat.reduceAdd]
        simp only [h24]
        obtain ⟨A3, hI3, hH3⟩ := hJ
        have H7 := Lib.hid (Hp.mid (A := A3) (B := Ar) (C := F0) (hH3.weaken hsq))
        have HI3 := Lib.hid hI3
        have hy7 := H7.out.use HP6.out
        have HY7 := Lib.hid hy7
        clear hR hI3 hH3 hsq hy7 h24
        go_wp2_with (at_builtin; refine wpList_append_bytes_hp rfl _ _ rfl (.slice rva p rvc) p fl rfl H7.out HR.out (.slice bva sx bvc) (batB x) rfl HY7.out (by rw [HBL.out]; omega) ?_)
        intro ga ca w8 A8 hr8 hH8
        rw [HBL.out] at hr8 ⊢
        obtain ⟨-, c0, c1, c2, -⟩ := hH8.use HBC6.out
        have H8 := Lib.hid hH8
        have HR8 := Lib.hid hr8
        clear hr8 hH8
        go_wp2_with fail
        refine (rnext_any x (by omega) (by omega) (by omega) _ _ (H8.out.use HBV6.out)).mono ?_
        rintro e w9 ⟨rfl, hb9⟩
        have hH9 := H8.out.below hb9 (Nat.le_refl _)
        obtain ⟨-, c0, c1, c2, -⟩ := hH9.use HBC6.out
        have H9 := Lib.hid hH9
        clear hH9 hb9
        go_wp2_with fail
        refine (rtime_any x (by omega) _ _ (H9.out.use HBV6.out)).mono ?_
        rintro e w10 ⟨rfl, hb10⟩
        have H10 := Lib.hid (H9.out.below hb10 (Nat.le_refl _))
        clear hb10
        go_wp2_with fail
        go_roundg gj
        case measure => omega
        case rel => exact ⟨k + 1, P6, A3, A8, by omega, by simp, by rw [HEND.out], by rw [HTM0.out], HS6.out, HI3.out, by rw [HSZ2.out, HFL.out]; exact HR8.out, Hp.mid (A := A8) (B := A3) (C := F0) H10.out⟩
    · have hkn : k = L.length := by omega
      have e : L.take k = L := by rw [hkn]; exact List.take_length
      rw [e] at hI hr
      rw [e, HEN.out]
      obtain ⟨P7, hs7, hH7, hI7⟩ := hI.seal hHr
      obtain ⟨P8, hs8, hH8, hp8⟩ := hH7.sealBytes hr
      rw [HF0.out] at hH8
      have hgood := ixF_good stp L (fun x hx => (HOK.out x hx).1) (by have := HSZ.out; omega) (by omega) (by omega)
      have hlr : (flatB L).length = sizes L := flatB_len L
      have hlsz := HSZ.out
      have hstm : stm L = tm0 L := stm_tm0 L HTM.out
      obtain ⟨sL, hsL⟩ : ∃ x, sizes L = x := ⟨_, rfl⟩
      obtain ⟨tL, htL⟩ : ∃ x, tm0 L = x := ⟨_, rfl⟩
      rw [hsL] at hlr hlsz hr
      rw [htL] at hstm ⊢
      obtain ⟨va8, vc8, rfl⟩ := hr.shape
      have HS8 := Lib.hid (hs5.trans (hs7.trans hs8))
      have H8 := Lib.hid hH8
      have HP8 := Lib.hid hp8
      have HI8 := Lib.hid (hI7.sub hs8)
      have HGD := Lib.hid hgood
      have HLR := Lib.hid hlr
      have HSL := Lib.hid hsL
      have HSTM := Lib.hid hstm
      have hEN2 : Sg.end_ ⟨d, segNm b, b, stp, L, 0⟩ = en := HEN.out
      have HEN2 := Lib.hid hEN2
      clear hI hr hHr hs5 hs7 hs8 hH7 hI7 hH8 hp8 hgood hlr hsL htL hstm hEN2 e hkn
      go_wp2_with fail
      refine (sraw_on ((C.sub HS3.out).sub HS8.out) HG.out HO.out (HD.out.sub HS8.out) H8.out).mono ?_
      rintro e w9 ⟨v9, P9, rfl, hs9, hp9, hH9⟩
      obtain ⟨va9, vc9, rfl, -⟩ := (hH9.use hp9).shape
      have hq : (flatB (⟨d, segNm b, b, stp, L, 0⟩ : Sg).l).length = sL := HLR.out
      rw [hq] at hp9 ⊢
      have H9 := Lib.hid hH9
      have HP9 := Lib.hid hp9
      have HS9 := Lib.hid (HS8.out.trans hs9)
      have HS89 := Lib.hid hs9
      clear hH9 hp9 hs9 hq
      go_wp2_with fail
      refine (samebytes_ok _ _ (flatB L) _ (H9.out.use HP9.out) (H9.out.use (HP8.out.sub HS89.out)) (by rw [HLR.out]; omega)).mono ?_
      rintro e w10 ⟨rfl, hb10⟩
      have H10 := Lib.hid (H9.out.below hb10 (Nat.le_refl _))
      clear hb10
      go_wp2_with fail
      refine (sbase_any HG.out H10.out).mono ?_
      rintro e w11 ⟨rfl, rfl⟩
      go_wp2_with fail
      refine (end_any HG.out HO.out.W H10.out).mono ?_
      rintro e w11 ⟨rfl, hH11⟩
      rw [HEN2.out]
      have H11 := Lib.hid hH11
      clear hH11
      go_wp2_with fail
      refine (ssize_any HG.out HO.out.W H11.out).mono ?_
      rintro e w12 ⟨rfl, hH12⟩
      have hq : sizes (⟨d, segNm b, b, stp, L, 0⟩ : Sg).l = sL := HSL.out
      rw [hq]
      have H12 := Lib.hid hH12
      clear hH12 hq
      go_wp2_with fail
      refine (stime_ok HG.out HO.out.W H12.out).mono ?_
      rintro e w13 ⟨rfl, hH13⟩
      have hq : stm (⟨d, segNm b, b, stp, L, 0⟩ : Sg).l = tL := HSTM.out
      rw [hq]
      have H13 := Lib.hid hH13
      clear hH13 hq
      go_wp2_with fail
      refine (sindex_ok HG.out HO.out.W HCH.out hst1 (by show stp ≤ _; omega) (by have h1 := HSL.out; show sizes L ≤ _; omega) H13.out).mono ?_
      rintro e w14 ⟨ib, P14, rfl, hs14, hI14, hH14⟩
      have H14 := Lib.hid hH14
      have HI14 := Lib.hid hI14
      have HS14 := Lib.hid hs14
      clear hH14 hI14 hs14
      go_wp2_with fail
      refine (ixbytes_ok HI14.out HGD.out H14.out).mono ?_
      rintro e w15 ⟨v15, P15, rfl, hs15, hp15, hH15⟩
      have H15 := Lib.hid hH15
      have HP15 := Lib.hid hp15
      have HS15 := Lib.hid hs15
      clear hH15 hp15 hs15
      go_wp2_with fail
      refine (ixbytes_ok (((HI8.out.sub HS89.out).sub HS14.out).sub HS15.out) HGD.out H15.out).mono ?_
      rintro e w16 ⟨v16, P16, rfl, hs16, hp16, hH16⟩
      have H16 := Lib.hid hH16
      have HP16 := Lib.hid hp16
      have HS16 := Lib.hid hs16
      clear hH16 hp16 hs16
      go_wp2_with fail
      refine (samebytes_ok _ _ (ixB (ixF stp L)) _ (H16.out.use (HP15.out.sub HS16.out)) (H16.out.use HP16.out) (ixB_len _ HGD.out)).mono ?_
      rintro e w17 ⟨rfl, hb17⟩
      have H17 := Lib.hid (H16.out.below hb17 (Nat.le_refl _))
      have HS17 := Lib.hid (HS9.out.trans (HS14.out.trans (HS15.out.trans HS16.out)))
      clear hb17
      go_wp2_with fail
      refine (long_any off0 (en - (b : Int) + 3) (by omega) (by omega) _).mono ?_
      rintro e w18 ⟨rfl, rfl⟩
      have ho0 := Int.emod_nonneg off0 (show en - (b : Int) + 3 ≠ 0 by omega)
      have ho1 := Int.emod_lt_of_pos off0 (show 0 < en - (b : Int) + 3 by omega)
      obtain ⟨om, hom⟩ : ∃ om, off0 % (en - (b : Int) + 3) = om := ⟨_, rfl⟩
      rw [hom] at ho0 ho1 ⊢
      clear hom
      have hcase : ((b : Int) + om - 1 < (b : Int)) ∨ (¬ (b : Int) + om - 1 < (b : Int) ∧ (b : Int) + om - 1 < en) ∨ (¬ (b : Int) + om - 1 < (b : Int) ∧ en ≤ (b : Int) + om - 1) := by omega
      rcases hcase with hc1 | ⟨hc1, hc2⟩ | ⟨hc1, hc2⟩
      · go_wp2_with fail
        refine (sread_out (C.sub (HS3.out.trans HS17.out)) HG.out HO.out.W ((b : Int) + om - 1) most (.inl hc1) H17.out).mono ?_
        rintro e w19 ⟨rfl, hH19⟩
        have hE19 := (C.errs.sub (HS3.out.trans HS17.out)) _ hH19.agr
        rw [hS19] at hE19
        have H19 := Lib.hid hH19
        have HE19 := Lib.hid hE19
        clear hH19 hE19
        go_wp2_with fail
        rw [← ev_some (errAt W) 14]
        refine (is_any HE19.out (101 + 14) (.inr (by omega)) 115).mono ?_
        rintro e w20 ⟨rfl, hb20⟩
        have HB20 := Lib.hid ((H19.out.below hb20 (Nat.le_refl _)).to_below (HS3.out.trans HS17.out))
        clear hb20
        go_wp2_with fail
        go_ret
        exact ⟨rfl, HB20.out⟩
      · go_wp2_with fail
        have hc3 : ¬ en ≤ (b : Int) + om - 1 := by omega
        refine (sread_on (C.sub (HS3.out.trans HS17.out)) HG.out HO.out (HD.out.sub HS17.out) ((b : Int) + om - 1) most (by show (b : Int) ≤ _; omega) (by rw [HEN2.out]; exact hc2) hm1 hm2 H17.out).mono ?_
        rintro e w19 ⟨v19, out19, P19, rfl, hs19, hm19, hb19, hH19⟩
        have hm19' : out19.map (·.1) = rdGo ((b : Int) + om - 1) most L [] 0 := hm19
        have H19 := Lib.hid hH19
        have HM19 := Lib.hid hm19'
        have HB19 := Lib.hid hb19
        have HS19 := Lib.hid hs19
        clear hH19 hm19 hm19' hb19 hs19
        go_wp2_with fail
        refine (want_ok _ out2 (HB3.out.sub (HS17.out.trans HS19.out)) L HM2.out HOK.out (by omega) ((b : Int) + om - 1) most (by omega) (by omega) hm1 hm2 H19.out).mono ?_
        rintro e w20 ⟨v20, out20, A20, rfl, hbm20, hH20⟩
        obtain ⟨P21, hs21, hbp21, hH21⟩ := hbm20.seal hH20
        have hr19 := hH21.use (HB19.out.sub hs21).read
        have hr20 := hH21.use hbp21.read
        rw [HM19.out] at hr19
        rw [hbm20.map] at hr20
        have hRok : ∀ x, x ∈ rdGo ((b : Int) + om - 1) most L [] 0 → BtOk x ∧ BtBy x := rdGo_ok _ most L [] 0 HOK.out (by simp)
        have hRlen : (rdGo ((b : Int) + om - 1) most L [] 0).length ≤ 20 := by
          have h1 := rdGo_len ((b : Int) + om - 1) most L [] 0
          have h2 := HN.out
          simp at h1; omega
        have HR19 := Lib.hid hr19
        have HR20 := Lib.hid hr20
        have HRO := Lib.hid hRok
        have HRL := Lib.hid hRlen
        have H21 := Lib.hid hH21
        have HS21 := Lib.hid ((HS3.out.trans HS17.out).trans (HS19.out.trans hs21))
        clear hbm20 hH20 hs21 hbp21 hH21 hr19 hr20 hRok hRlen
        go_wp2_with fail
        refine (samebatches_ok HR19.out HR20.out (by have := HRL.out; omega) (fun x hx => (HRO.out x hx).1.sm)).mono ?_
        rintro e w22 ⟨rfl, hb22⟩
        have HB22 := Lib.hid ((H21.out.below hb22 (Nat.le_refl _)).to_below HS21.out)
        clear hb22
        go_wp2_with fail
        go_ret
        exact ⟨rfl, HB22.out⟩
      · go_wp2_with fail
        refine (sread_out (C.sub (HS3.out.trans HS17.out)) HG.out HO.out.W ((b : Int) + om - 1) most (.inr (by rw [HEN2.out]; exact hc2)) H17.out).mono ?_
        rintro e w19 ⟨rfl, hH19⟩
        have hE19 := (C.errs.sub (HS3.out.trans HS17.out)) _ hH19.agr
        rw [hS19] at hE19
        have H19 := Lib.hid hH19
        have HE19 := Lib.hid hE19
        clear hH19 hE19
        go_wp2_with fail
        rw [← ev_some (errAt W) 14]
        refine (is_any HE19.out (101 + 14) (.inr (by omega)) 115).mono ?_
        rintro e w20 ⟨rfl, hb20⟩
        have HB20 := Lib.hid ((H19.out.below hb20 (Nat.le_refl _)).to_below (HS3.out.trans HS17.out))
        clear hb20
        go_wp2_with fail
        go_ret
        exact ⟨rfl, HB20.out⟩
end Go.Proofs.YtlkkagjpapjehaaGreatDoor.Sg

/-! SegReadsRow -/
namespace Go.Proofs.YtlkkagjpapjehaaGreatDoor.segReads
open Go.ChangeShapes Go.WideShapes Go.ChangeAt Go.RowKit
open Go.Proofs.YtlkkagjpapjehaaGreatDoor.Sg
set_option linter.unusedVariables false

theorem own : ownKnob Tryz.prog.godebug = none := by kernel_rfl
theorem laidOut : laidOutB Tryz.prog = true := by kernel_rfl

theorem door_met (os : Os) (args : Array Value) : laidMetH Tryz.prog Rows.segReadsRow.laid ((World.doorLaid Tryz.prog 400 os).forCall (fun _ _ => 0) ⟨#[], args, []⟩).memory :=
  laidMetH_of_parts3 (fuel := 8) (laidMet_of_run' 8 (by kernel_rfl) (by kernel_rfl)) (by kernel_rfl) (by kernel_rfl)

theorem reads (os : Os) {H : Type} (enc : TypeId × Value → H) : ∃ places, DataW.whole enc Tryz.prog ((World.doorLaid Tryz.prog 400 os).forCall (fun _ _ => 0) ⟨#[], #[.int .i64 0, .slice none 0 0, .int .i64 0, .int .i64 0, .int .i64 0, .int .i64 0], []⟩).memory Tryz.f5.params.toList Rows.segReadsSpec.vars false (#[.int .i64 0, .slice none 0 0, .int .i64 0, .int .i64 0, .int .i64 0, .int .i64 0] : Array Value).toList 8 = some ([.lit (.int .i64 0), .nil, .lit (.int .i64 0), .lit (.int .i64 0), .lit (.int .i64 0), .lit (.int .i64 0)], [], places) :=
  ⟨[], by kernel_rfl⟩

set_option maxRecDepth 100000 in
theorem contract (H : Type) (enc : TypeId × Value → H) (W : World) (base : Nat) (args : Array Value) (ds gs : List (DataW H)) (before : List MemPlace)
    (hval0 : ∀ (j : Nat) t v, Tryz.f5.params[j]? = some t → args[j]? = some v → Value.okWide Tryz.prog W .any base t v)
    (hW : DataW.Whole enc Tryz.prog Tryz.f5.params.toList Rows.segReadsSpec.vars false W args.toList ds gs before) (hL : laidMetH Tryz.prog Rows.segReadsRow.laid W) (hsh : W.ShapedOpen Tryz.prog) :
    Calls Tryz.prog 5 args W fun e W' => ∃ v, e = .returned v ∧ Rows.segReadsSpec.post enc Tryz.prog Tryz.f5 false true false false W args v W' := by
  have hval : ∀ (j : Nat) t v, Tryz.f5.params[j]? = some t → args[j]? = some v → Value.okWide Tryz.prog W .any base t v := hval0
  have hW' := hW
  obtain ⟨p, q, hA0, hV, rfl, hfz, hnd⟩ := hW
  have hA : DataW.TrodAll enc Tryz.prog W 0 (fun _ => true) true Tryz.f5.params.toList args.toList ds p := hA0
  rw [Tryz.params5] at hA hval
  obtain ⟨v0, vs0, d0, ds0, p0, q0, hargs, rfl, rfl, h0, r0⟩ := trodAll_cons hA
  obtain ⟨v1, vs1, d1, ds1, p1, q1, rfl, rfl, rfl, h1, r1⟩ := trodAll_cons r0
  obtain ⟨v2, vs2, d2, ds2, p2, q2, rfl, rfl, rfl, h2, r2⟩ := trodAll_cons r1
  obtain ⟨v3, vs3, d3, ds3, p3, q3, rfl, rfl, rfl, h3, r3⟩ := trodAll_cons r2
  obtain ⟨v4, vs4, d4, ds4, p4, q4, rfl, rfl, rfl, h4, r4⟩ := trodAll_cons r3
  obtain ⟨v5, vs5, d5, ds5, p5, q5, rfl, rfl, rfl, h5, r5⟩ := trodAll_cons r4
  obtain ⟨rfl, rfl, rfl⟩ := trodAll_nil r5
  obtain rfl : args = #[v0, v1, v2, v3, v4, v5] := by cases args; simp_all
  obtain ⟨rfl, rfl⟩ := trodVars_none hV
  obtain ⟨a0, rfl, rfl, rfl, w0⟩ := open_int Tryz.underlying2 (hval 0 2 v0 rfl rfl) h0
  obtain ⟨a1, len1, cap1, rfl⟩ := okWide_slice Tryz.underlying22 (hval 1 22 v1 rfl rfl)
  have k1 := h1
  have lt1 : ∀ x ∈ p1, x.block < W.heap.size := by obtain ⟨m, hm⟩ := k1; exact DataW.trod_lt m _ _ _ hm
  obtain ⟨z1, w1⟩ : ∃ zs, IsRow W a1 len1 cap1 zs := by
    obtain ⟨fuel, hf⟩ := h1
    rcases open_ints Tryz.underlying22 Tryz.underlying3 (by kernel_rfl) hf with ⟨hcs, _⟩ | ⟨x, l, c, zs, hcs, _, hl, hm, hz, _, hcell, hwz⟩
    · simp [Value.cells] at hcs
      obtain ⟨rfl, rfl, rfl⟩ := hcs
      exact ⟨[], .inl ⟨rfl, rfl, rfl, rfl⟩⟩
    · simp [Value.cells] at hcs
      obtain ⟨rfl, rfl, rfl⟩ := hcs
      exact ⟨zs, .inr ⟨_, rfl, hl, hm, by simpa using hz, hcell, hwz⟩⟩
  obtain ⟨a2, rfl, rfl, rfl, w2⟩ := open_int Tryz.underlying3 (hval 2 3 v2 rfl rfl) h2
  obtain ⟨a3, rfl, rfl, rfl, w3⟩ := open_int Tryz.underlying3 (hval 3 3 v3 rfl rfl) h3
  obtain ⟨a4, rfl, rfl, rfl, w4⟩ := open_int Tryz.underlying2 (hval 4 2 v4 rfl rfl) h4
  obtain ⟨a5, rfl, rfl, rfl, w5⟩ := open_int Tryz.underlying3 (hval 5 3 v5 rfl rfl) h5
  have hL0 := hL
  rw [MakeChecks.laidMetH_plain _ _ _ (by kernel_rfl)] at hL0
  obtain ⟨hT, hE⟩ := laid19 (W := W) hL0 (Er.gmax_le hsh)
  clear hA0 hval0
  refine (reads_all a0 a1 len1 cap1 z1 a2 a3 a4 a5 W w1 (bounds_i64 w5).1 (bounds_i64 w5).2 l19_all rfl hE hT).mono fun e W' ⟨he, bel⟩ => ?_
  subst he
  exact ⟨_, rfl, _, _, _, [], _, [], hW', trodAll_mk1 (shut_bool Tryz.underlying4 _), (trodAll_cons_mk (shut_int Tryz.underlying2 w0) (trodAll_cons_mk (Below.trod laidOut (by kernel_rfl) (of_decide_eq_true (by kernel_rfl)) k1 bel lt1) (trodAll_cons_mk (shut_int Tryz.underlying3 w2) (trodAll_cons_mk (shut_int Tryz.underlying3 w3) (trodAll_cons_mk (shut_int Tryz.underlying2 w4) (trodAll_cons_mk (shut_int Tryz.underlying3 w5) trodAll_mk0)))))), rfl, bel.frame _, fun h => by cases h⟩

set_option maxRecDepth 100000 in
theorem lifted (os : Os) (started : os.Started) (H : Type) (enc : TypeId × Value → H) (F : Stop.Interp) :
    ReturnsInHanded {} Tryz.checked os 5 .any ((OpenSpec.ofChange Rows.segReadsSpec).preRow enc Tryz.prog Tryz.f5 Rows.segReadsRow.domain false Rows.segReadsRow.laid) (((OpenSpec.ofChange Rows.segReadsSpec).at F).post enc Tryz.prog Tryz.f5 false true false false) := by
  obtain ⟨places, hx⟩ := reads os enc
  refine returnsInHanded_of_row (C := Tryz.checked) (s := OpenSpec.ofChange Rows.segReadsSpec) own started (by kernel_rfl) Tryz.func5
    (witness_row_atRef (enc := enc) (C := Tryz.checked) false (World.doorLaid Tryz.prog 400 os) #[.int .i64 0, .slice none 0 0, .int .i64 0, .int .i64 0, .int .i64 0, .int .i64 0] rfl (by kernel_rfl) (by kernel_rfl) (by kernel_rfl)
      (OpenSpec.preRow_of_cond 8 hx (by kernel_rfl) (fun k hk => by cases hk) (by kernel_rfl) (door_met os _))) ?_
  intro W base args ds gs before hval hW _ _ _ hL hsh _
  exact contract H enc W base args ds gs before hval hW hL hsh

theorem said : Rows.SegReadsSaid :=
  OpenClaim.holds_of_cond 5 Tryz.f5 rfl rfl rfl rfl rfl rfl rfl ⟨rfl, rfl, rfl, rfl, rfl⟩ rfl rfl rfl rfl rfl (by kernel_rfl) Tryz.func5 (by kernel_rfl)
    (of_decide_eq_true (by kernel_rfl)) (by unfold Func.isWrapper; rw [if_neg (of_decide_eq_false (by kernel_rfl))]; exact ⟨rfl, rfl⟩)
    (fun os started H enc _ F => by rw [OpenClaim.pre_eq_preRow]; exact lifted os started H enc F)

theorem plain (f : FuncId) (fn : Func) (hf : Tryz.pinned.checked.prog.funcNamed "cordwood/cordwoodlaw7.SegReads" = some f) (hfn : Tryz.pinned.checked.prog.funcs[f]? = some fn) :
    true = Tryz.pinned.checked.prog.looks [] ∧ ∀ (j : Nat) t, fn.params[j]? = some t → Tryz.pinned.checked.prog.wantsStandIn t = false := by
  obtain rfl : f = 5 := Option.some.inj ((show Tryz.prog.funcNamed "cordwood/cordwoodlaw7.SegReads" = some 5 by kernel_rfl).symm.trans hf) |>.symm
  obtain rfl : fn = Tryz.f5 := (Option.some.inj (Tryz.func5.symm.trans hfn)).symm
  refine ⟨by kernel_rfl, fun j t ht => ?_⟩
  rw [Tryz.params5] at ht
  have hm := Array.mem_of_getElem? ht
  have hm := Array.mem_of_getElem? ht
  have ht2 : t = 2 ∨ t = 22 ∨ t = 3 := by
    simp at hm
    rcases hm with h | h | h | h | h <;> simp [h]
  rcases ht2 with rfl | rfl | rfl
  · exact (show Tryz.prog.wantsStandIn 2 = false by kernel_rfl)
  · exact (show Tryz.prog.wantsStandIn 22 = false by kernel_rfl)
  · exact (show Tryz.prog.wantsStandIn 3 = false by kernel_rfl)

/-- THE CARD -/
theorem card : Rows.SegReadsCardSaid :=
  Claim7.holds_tied_plain_at .later [] _ _ _ _ said (fun _ h => by cases h) (by kernel_rfl) (fun _ h => by cases h) segReads_row_tie rfl ⟨rfl, rfl⟩ (by kernel_rfl) rfl plain (by kernel_rfl)
#print axioms card
end Go.Proofs.YtlkkagjpapjehaaGreatDoor.segReads
