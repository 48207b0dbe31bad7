/- Plain laws for SegCuts: batches in a chain begin one behind the other; a disk of one name behind a crash. cordwoodlaw7.SegCuts answers true for every input. The statement SegCuts of chapter 7 holds for every input: the call returns true and leaves its arguments as they were. -/
import Derived.Test.YtlkkagjpapjehaaGreatDoorMi
import Derived.Test.YtlkkagjpapjehaaGreatDoorMf
import Derived.Test.YtlkkagjpapjehaaGreatDoorCards
import Derived.Test.YtlkkagjpapjehaaGreatDoorTie
import Derived.ProofKit
import Derived.OpenShut
import Derived.LaidMore
import Derived.Deep.DeepWitnessRowRef

/-! Lk -/
namespace Go.Proofs.YtlkkagjpapjehaaGreatDoor.Sg
open Go.RowKit Er Go.Maps

theorem chain_ge : ∀ (l : List Bt) (b e : Int), Chain b e l → ∀ x ∈ l, b ≤ x.b
  | [], _, _, _, x, hx => by cases hx
  | y :: l, b, e, ⟨h1, h2, h3⟩, x, hx => by
    rcases List.mem_cons.1 hx with rfl | hx
    · omega
    · have := chain_ge l _ _ h3 x hx; omega
theorem chain_end_le : ∀ (l : List Bt) (b e : Int), Chain b e l → b ≤ endOf b l ∧ ∀ x ∈ l, x.b + x.r.length ≤ endOf b l
  | [], b, _, _ => ⟨by simp [endOf], fun x hx => by cases hx⟩
  | y :: l, b, e, ⟨h1, h2, h3⟩ => by
    obtain ⟨g1, g2⟩ := chain_end_le l _ _ h3
    rw [endOf_cons]
    refine ⟨by omega, fun x hx => ?_⟩
    rcases List.mem_cons.1 hx with rfl | hx
    · exact g1
    · exact g2 x hx
theorem chain_at {l : List Bt} {b e : Int} (h : Chain b e l) (k : Nat) (hk : k < l.length) : l[k].b = endOf b (l.take k) ∧ (∀ x ∈ l.drop (k + 1), l[k].b + l[k].r.length ≤ x.b) := by
  have h1 : Chain b e (l.take k ++ l[k] :: l.drop (k + 1)) := by rw [take_split l k hk]; exact h
  obtain ⟨-, h2, -, h3⟩ := (chain_app _ _ _ _).1 h1
  exact ⟨h2, chain_ge _ _ _ h3⟩
theorem chain_lt {l : List Bt} {b e : Int} (h : Chain b e l) (hr : ∀ x ∈ l, 1 ≤ x.r.length) (i j : Nat) (hij : i < j) (hj : j < l.length) : (l[i]'(by omega)).b < l[j].b := by
  have h2 := (chain_at h i (by omega)).2 l[j] (by
    rw [List.mem_iff_getElem]
    refine ⟨j - (i + 1), by rw [List.length_drop]; omega, ?_⟩
    rw [List.getElem_drop]
    congr 1; omega)
  have := hr (l[i]'(by omega)) (List.getElem_mem _)
  omega

theorem used_one {D : Dk} {s : Nam} {b : Nat} {f : Fl} (hn : D.nm = [(s, b)]) (hf : ffind D.fl b = some f) : D.used = f.b.length := by
  unfold Dk.used
  rw [hn]
  simp [allSum, flen, hf]
theorem nm_one {D : Dk} {s : Nam} {f : Fl} (h : D.look s = some f) (hn : D.nm.length = 1) : D.nm = [(s, f.blk)] := by
  have h1 := nfind_mem (look_some h).1
  match hnm : D.nm, hn with
  | [p], _ =>
    rw [hnm] at h1
    simp at h1
    rw [h1]
/-- A segment whose bytes are all kept stays as it is behind a crash. -/
theorem crash1_on {D : Dk} {G : Sg} (hO : SegOn D G) {f : Fl} (hf : D.look G.nm = some f) (hkp : D.kp = D.nm) (hk : f.s = f.b.length) (p : Nat) (hp : p ≤ f.b.length - f.s) :
    SegOn (D.crash1 f p) G ∧ (D.crash1 f p).nm = D.nm ∧ (D.crash1 f p).kp = D.nm ∧ (D.crash1 f p).room = D.room := by
  have hp0 : p = 0 := by omega
  subst hp0
  have hfl := look_some hf
  have hg : ({ f with b := f.b.take (f.s + 0), s := f.s + 0 } : Fl) = f := by
    rw [Nat.add_zero, hk, List.take_length, ← hk]
  have hc : D.crash1 f 0 = { D.withF f D.calls with nm := D.kp, ch := [], arm := 0, down := false } := by
    unfold Dk.crash1; rw [hg]; rfl
  rw [hc]
  have hI := hO.I
  have hI1 := withF_I hI f D.calls
  have hlk : ∀ s, Dk.look { D.withF f D.calls with nm := D.kp, ch := [], arm := 0, down := false } s = D.look s := fun s => by
    have h1 : Dk.look { D.withF f D.calls with nm := D.kp, ch := [], arm := 0, down := false } s = (D.withF f D.calls).look s := by unfold Dk.look; rw [hkp]; rfl
    rw [h1, withF_look hI hf f rfl D.calls s]
    split
    · rename_i e; rw [e, hf]
    · rfl
  refine ⟨⟨⟨⟨fun q hq => hI1.w.nm q (by show q ∈ D.nm; rw [← hkp]; exact hq), hI1.w.kp, fun c hc => by cases hc⟩, by show (D.kp.map _).Nodup; rw [hkp]; exact hI.nd, by show (D.kp.map _).Nodup; rw [hkp]; exact hI.inj, rfl, rfl⟩, hO.ok, hO.by_, hO.base, hO.nm, ?_, hO.room, ?_⟩, hkp, hkp, rfl⟩
  · obtain ⟨f', h1, h2, h3⟩ := hO.f
    exact ⟨f', by rw [hlk]; exact h1, h2, h3⟩
  · have h1 := hO.used
    have h2 := withF_used hI hf f rfl D.calls
    have h3 : Dk.used { D.withF f D.calls with nm := D.kp, ch := [], arm := 0, down := false } = (D.withF f D.calls).used := by unfold Dk.used; rw [hkp]; rfl
    rw [h3]
    show _ ≤ D.room
    omega

end Go.Proofs.YtlkkagjpapjehaaGreatDoor.Sg

/-! Lc -/
namespace Go.Proofs.YtlkkagjpapjehaaGreatDoor.Sg
open Go.RowKit Er Go.Maps

/-- Which batch begins at an offset, as the law's loop finds it. -/
def KOf (L : List Bt) (o : Int) (i : Nat) (kk : Int) : Prop :=
  (kk = -1 ∧ ∀ z ∈ L.take i, z.b ≠ o) ∨ ∃ (k : Nat) (y : Bt), kk = (k : Int) ∧ k < i ∧ L[k]? = some y ∧ y.b = o ∧ ∀ z ∈ L.take k, z.b ≠ o
theorem kof_yes {L : List Bt} {o : Int} {i : Nat} {kk : Int} (h : KOf L o i kk) {e : Int} {b : Int} (hch : Chain b e L) (hr : ∀ x ∈ L, 1 ≤ x.r.length) (hi : i < L.length) (ho : L[i].b = o) : KOf L o (i + 1) (i : Int) := by
  rcases h with ⟨-, h⟩ | ⟨k, y, -, hk, hy, hyo, -⟩
  · exact .inr ⟨i, L[i], rfl, by omega, List.getElem?_eq_getElem hi, ho, h⟩
  · have hk2 : k < L.length := by omega
    rw [List.getElem?_eq_getElem hk2] at hy
    cases hy
    have := chain_lt hch hr k i hk hi
    omega
theorem kof_no {L : List Bt} {o : Int} {i : Nat} {kk : Int} (h : KOf L o i kk) (hi : i < L.length) (ho : L[i].b ≠ o) : KOf L o (i + 1) kk := by
  rcases h with ⟨h1, h⟩ | ⟨k, y, h1, hk, h2⟩
  · refine .inl ⟨h1, fun z hz => ?_⟩
    rw [take_next L i hi] at hz
    rcases List.mem_append.1 hz with hz | hz
    · exact h z hz
    · rw [List.mem_singleton.1 hz]; exact ho
  · exact .inr ⟨k, y, h1, by omega, h2⟩
theorem segon_used {D : Dk} {G : Sg} (hO : SegOn D G) (hn : D.nm.length = 1) : D.used = sizes G.l := by
  obtain ⟨f, h1, h2, -⟩ := hO.f
  rw [used_one (nm_one h1 hn) (look_some h1).2, h2, flatB_len]

section
variable {S : List Nat} {E : Nat → Addr} {B : Nat} {P : Pm} {s : Nat} {G : Sg} {D : Dk} {A Ad F : Mm} {w : World}
theorem scut_end (C : Ctx S E B P) (hG : SgM s G A) (hO : SegOn D G) (hD : DkM P G.d D Ad) (n : Nat) (hn : G.l.length = n) (o : Int) (hoe : o = G.end_) (hyz : ∀ z ∈ G.l, z.b ≠ o) (hH : Hp w P (A ++ (Ad ++ F))) :
    Calls Tryz.prog 50 #[ptr s, .int .i64 o] w fun e w' => e = .returned .nilIface ∧ ∃ P' A' Ad' D', Sub P P' ∧ SgM s (G.cutK n) A' ∧ DkM P' G.d D' Ad' ∧ SegOn D' (G.cutK n) ∧ DkSame D D' ∧ D'.used ≤ D.used ∧
      (∀ s', s' ≠ G.nm → D'.look s' = D.look s') ∧ Hp w' P' (A' ++ (Ad' ++ F)) := by
  subst hn
  by_cases h : G.l = []
  · have h1 := scut_empty C hG hO hD h o (by rw [hoe, end_eq, h]; rfl) hH
    rw [show G.l.length = 0 from by rw [h]; rfl]
    exact h1
  · exact scut_ok C hG hO hD G.l.length o h (.inr ⟨rfl, hoe, hyz⟩) hH
end

/-- What holds at the head of SegCuts's last loop. -/
def CutsRel (P : Pm) (F : Mm) (d s : Nat) (L : List Bt) (kept n m : Nat) (vi : Value) (w : World) : Prop :=
  ∃ (i : Nat) (P' : Pm) (A Ad : Mm) (D : Dk), i + m = n ∧ vi = .int .i64 i ∧ Sub P P' ∧ SgM s ⟨d, segNm 0, 0, 60, L.take i, kept⟩ A ∧ DkM P' d D Ad ∧ SegOn D ⟨d, segNm 0, 0, 60, L.take i, kept⟩ ∧
    D.room = 1048576 ∧ D.used = sizes (L.take i) ∧ Hp w P' (A ++ (Ad ++ F))

set_option maxRecDepth 100000 in
set_option maxHeartbeats 16000000 in
theorem cuts_all (a0 : Option Addr) (len0 cap0 : Nat) (z0 : List Int) (at0 : Int) (a2 : Option Addr) (len2 cap2 : Nat) (z2 : List Int) (W : World) (h : IsRow W a0 len0 cap0 z0) (hp : IsRow W a2 len2 cap2 z2)
    {S : List Nat} (hS : ∀ i, i < 10 ∨ i = 14 → i ∈ S) (hS19 : S = List.range 19) (hE : Errs S W (errAt W) W.heap.size)
    (hT : Lib.TabIs Tryz.prog W "internal/strconv.uint64pow10" .u64 Lib.pow10Tab) :
    Calls Tryz.prog 10 #[.slice a0 len0 cap0, .int .i64 at0, .slice a2 len2 cap2] W fun e W' => e = .returned (.bool true) ∧ Below W.heap.size W W' := by
  have C := ctx_start hS hE hT
  obtain ⟨xs, rfl, hC⟩ := isRow_C h
  obtain ⟨ps, rfl, hQ⟩ := isRow_C hp
  have hCp := ints_pers hC
  have hQp := ints_pers hQ
  have H0 : Hid (Hp W (Pm.start W) []) := Hp.start W
  have HCP := Lib.hid hCp
  have HCQ := Lib.hid hQp
  clear h hC hp hQ hE hT hCp hQp
  have hlen : 20 < xs.length ∨ (¬ 20 < xs.length ∧ 5 < ps.length) ∨ (¬ 20 < xs.length ∧ ¬ 5 < ps.length) := by omega
  rcases hlen with hlen | ⟨hlen, hlen2⟩ | ⟨hlen, hlen2⟩
  · clear HCP HCQ
    go_enter Tryz.func10, Tryz.ntmps10
    go_wp2_with fail
    refine (first_ok C H0.out).mono ?_
    rintro e w1 ⟨rfl, P1, hs1, hH1⟩
    have HB := Lib.hid (hH1.to_below hs1)
    clear hH1 hs1
    go_wp2_with fail
    go_ret
    exact ⟨rfl, HB.out⟩
  · clear HCP HCQ
    go_enter Tryz.func10, Tryz.ntmps10
    go_wp2_with fail
    refine (first_ok C H0.out).mono ?_
    rintro e w1 ⟨rfl, P1, hs1, hH1⟩
    have HB := Lib.hid (hH1.to_below hs1)
    clear hH1 hs1
    go_wp2_with fail
    go_ret
    exact ⟨rfl, HB.out⟩
  have hl1 : xs.length ≤ 20 := by omega
  obtain ⟨hch, hok, hsz, hn1, hn2⟩ := row20b 3 xs 0 (by omega) hl1
  obtain ⟨L, hLd⟩ : ∃ L, L = rowGo 3 xs 0 ((0 : Nat) : Int) := ⟨_, rfl⟩
  rw [← hLd] at hch hok hsz hn1 hn2
  obtain ⟨en, hen⟩ : ∃ en, endOf ((0 : Nat) : Int) L = en := ⟨_, rfl⟩
  rw [hen] at hn1 hn2
  obtain ⟨n, hn⟩ : ∃ n, L.length = n := ⟨_, rfl⟩
  have hn20 : n ≤ 20 := by rw [← hn, hLd, row_len]; exact hl1
  have HLD := Lib.hid hLd
  have HCH := Lib.hid hch
  have HOK := Lib.hid hok
  have HSZ := Lib.hid hsz
  have HEN := Lib.hid hen
  have HN := Lib.hid hn
  have HR1 : Hid (∀ x ∈ L, 1 ≤ x.r.length) := fun x hx => (hok x hx).1.n1
  clear hLd hch hok hsz hen hn
  go_enter Tryz.func10, Tryz.ntmps10
  go_wp2_with fail
  refine (first_ok C H0.out).mono ?_
  rintro e w1 ⟨rfl, P1, hs1, hH1⟩
  have H1 := Lib.hid hH1
  have HS1 := Lib.hid hs1
  clear hH1 hs1
  go_wp2_with fail
  refine (row_p H1.out a0 xs cap0 (HCP.out.sub HS1.out) 3 (by decide) (by omega) 0 (by decide) (by decide)).mono ?_
  rintro e w2 ⟨v2, P2, out2, rfl, hs2, hm2', hb2, hH2⟩
  have hm2 : out2.map (·.1) = L := hm2'.trans HLD.out.symm
  have hon : out2.length = n := by rw [← HN.out, ← hm2, List.length_map]
  obtain ⟨va, vc, rfl, hvc⟩ := hb2.shape
  rw [hon] at hb2 hvc ⊢
  have H2 := Lib.hid hH2
  have HB2 := Lib.hid hb2
  have HM2 := Lib.hid hm2
  have HON := Lib.hid hon
  have HS2 := Lib.hid (HS1.out.trans hs2)
  clear hH2 hb2 hm2' hm2 hs2 hon
  go_wp2_with fail
  refine (made_ok (C.sub HS2.out) 0 (by decide) 60 (by decide) (by decide) _ out2 HB2.out L HM2.out HCH.out HOK.out HSZ.out H2.out).mono ?_
  rintro e w3 ⟨d, s, P3, A, Ad, D, rfl, hs3, hG, hD, hO, hroom, hused, ⟨hnm, hkp⟩, hnn, hchl, hH3⟩
  have HS3 := Lib.hid (HS2.out.trans hs3)
  have HB3 := Lib.hid (HB2.out.sub hs3)
  have H3 := Lib.hid hH3
  have HG := Lib.hid hG
  have HO := Lib.hid hO
  have HD := Lib.hid hD
  have HN3 : Hid (D.nm.length = 1 ∧ D.kp = D.nm ∧ D.ch.length = 0 ∧ D.room = 1048576) := ⟨hnm, hkp, hchl, hroom⟩
  clear hs3 hH3 hG hO hD hroom hused hnm hkp hnn hchl
  go_wp2_with fail
  refine (ssync_on (C.sub HS3.out) HG.out HO.out HD.out H3.out).mono ?_
  rintro e w4 ⟨rfl, A4, Ad4, D4, hG4, hD4, hO4, hsm4, hus4, -, hH4⟩
  have HN4 : Hid (D4.nm.length = 1 ∧ D4.kp = D4.nm ∧ D4.ch.length = 0 ∧ D4.room = 1048576) := ⟨by rw [hsm4.nmq]; exact HN3.out.1, hsm4.kpq HN3.out.2.1, by have := hsm4.ch; have := HN3.out.2.2.1; omega, by rw [hsm4.room]; exact HN3.out.2.2.2⟩
  have HG4 : Hid (SgM s ⟨d, segNm 0, 0, 60, L, sizes L⟩ A4) := hG4
  have HO4 : Hid (SegOn D4 ⟨d, segNm 0, 0, 60, L, sizes L⟩) := hO4
  have HD4 : Hid (DkM P3 d D4 Ad4) := hD4
  have H4 := Lib.hid hH4
  have hen4 : Sg.end_ ⟨d, segNm 0, 0, 60, L, sizes L⟩ = en := HEN.out
  have HEN4 := Lib.hid hen4
  clear hG4 hD4 hO4 hsm4 hus4 hH4 hen4
  go_wp2_with fail
  refine (end_any HG4.out HO4.out.W H4.out).mono ?_
  rintro e w5 ⟨rfl, hH5⟩
  rw [HEN4.out]
  have H5 := Lib.hid hH5
  clear hH5
  go_wp2_with fail
  refine (long_any at0 (en + 3) (by omega) (by omega) _).mono ?_
  rintro e w6 ⟨rfl, rfl⟩
  have ho0 := Int.emod_nonneg at0 (show en + 3 ≠ 0 by omega)
  have ho1 := Int.emod_lt_of_pos at0 (show 0 < en + 3 by omega)
  obtain ⟨o, ho⟩ : ∃ o, at0 % (en + 3) = o + 1 := ⟨at0 % (en + 3) - 1, by omega⟩
  rw [ho] at ho0 ho1 ⊢
  clear ho
  go_wp2_with fail
  go_loopg [13, 14] n (fun m vk vi wr => ∃ (i : Nat) (kk : Int), i + m = n ∧ vi = .int .i64 i ∧ vk = .int .i64 kk ∧ -1 ≤ kk ∧ kk ≤ 20 ∧ KOf L o i kk ∧ wr = w5)
  case atStart => exact ⟨0, -1, by omega, rfl, rfl, by omega, by omega, .inl ⟨rfl, by simp⟩, rfl⟩
  case round =>
    obtain ⟨i, kk, hi, rfl, rfl, hk1, hk2, hko, rfl⟩ := hrel
    by_cases hlt : i < n
    · obtain ⟨gj, rfl⟩ : ∃ x, gk = x + 1 := ⟨gk - 1, by omega⟩
      have hil : i < L.length := by rw [HN.out]; exact hlt
      have hio : i < out2.length := by rw [HON.out]; exact hlt
      obtain ⟨gl, ol, cap, hvv, hcp, hbc⟩ := HB3.out.at_ hio
      simp only [Value.slice.injEq] at hvv
      obtain ⟨rfl, -, rfl⟩ := hvv
      have hx : (out2[i]'hio).1 = L[i] := by have := HM2.out; subst this; simp
      obtain ⟨-, c0, -, -, -⟩ := H5.out.use hbc
      rw [hx] at c0
      have hyes := fun h => kof_yes hko HCH.out HR1.out hil h
      have hno := fun h => kof_no hko hil h
      obtain ⟨xb, hxb⟩ : ∃ z, L[i].b = z := ⟨_, rfl⟩
      rw [hxb] at c0 hyes hno
      have j1 : (i : Int) < (n : Int) := by omega
      have j2 : (0 : Int) ≤ (i : Int) := by omega
      clear hbc hx hko hxb
      by_cases hq : xb = o
      · have hy := hyes hq
        have hbq : (xb == o) = true := by simp [hq]
        have HY := Lib.hid hy
        clear hyes hno hq hy
        go_wp2_with fail
        go_roundg gj
        case measure => omega
        case rel => exact ⟨i + 1, (i : Int), by omega, by simp, rfl, by omega, by omega, HY.out, rfl⟩
      · have hy := hno hq
        have hbq : (xb == o) = false := by simp [hq]
        have HY := Lib.hid hy
        clear hyes hno hq hy
        go_wp2_with fail
        go_roundg gj
        case measure => omega
        case rel => exact ⟨i + 1, kk, by omega, by simp, rfl, hk1, hk2, HY.out, rfl⟩
    · have hin : i = n := by omega
      have hcase : (∃ (k : Nat) (y : Bt), kk = (k : Int) ∧ k < n ∧ o ≠ en ∧ L[k]? = some y ∧ y.b = o ∧ ∀ z ∈ L.take k, z.b ≠ o) ∨ (kk = -1 ∧ o = en ∧ ∀ z ∈ L, z.b ≠ o) ∨ (kk = -1 ∧ o ≠ en ∧ ∀ z ∈ L, z.b ≠ o) := by
        rcases hko with ⟨h1, h2⟩ | ⟨k, y, h1, h2, h3, h4, h5⟩
        · rw [hin, ← HN.out, List.take_length] at h2
          by_cases hoe : o = en
          · exact .inr (.inl ⟨h1, hoe, h2⟩)
          · exact .inr (.inr ⟨h1, hoe, h2⟩)
        · refine .inl ⟨k, y, h1, by omega, ?_, h3, h4, h5⟩
          have hm := List.mem_of_getElem? h3
          have h6 := (chain_end_le L _ _ HCH.out).2 y hm
          have h7 := HR1.out y hm
          have h8 := HEN.out
          omega
      have hlL : (L = [] ∧ n = 0) ∨ (L ≠ [] ∧ 0 < n) := by
        cases hL : L with
        | nil => left; have := HN.out; rw [hL] at this; exact ⟨rfl, this.symm⟩
        | cons z l => right; have := HN.out; rw [hL] at this; exact ⟨by simp, by rw [← this]; simp⟩
      clear hko
      rcases hcase with ⟨k, y, rfl, hkn, hoe, hy, hyo, hyz⟩ | ⟨rfl, hoe, hyz⟩ | ⟨rfl, hoe, hyz⟩
      · have hbe : (o == en) = false := by simp [hoe]
        have hLne : L ≠ [] := by rcases hlL with ⟨-, h⟩ | ⟨h, -⟩; omega; exact h
        have hk0 : ¬ (k : Int) < 0 := by omega
        have hkl : k < L.length := by rw [HN.out]; exact hkn
        have hLk : L[k] = y := by rw [List.getElem?_eq_getElem hkl] at hy; exact Option.some.inj hy
        have HKO : Hid (endOf ((0 : Nat) : Int) (L.take k) = o) := by
          have := (chain_at HCH.out k hkl).1
          rw [hLk, hyo] at this
          exact this.symm
        have HCHK : Hid (Chain ((0 : Nat) : Int) 0 (L.take k)) := by
          have h1 := HCH.out
          rw [← List.take_append_drop k L] at h1
          exact ((chain_app _ _ _ _).1 h1).1
        have HYY : Hid (L[k]? = some y ∧ y.b = o ∧ ∀ z ∈ L.take k, z.b ≠ o) := ⟨hy, hyo, hyz⟩
        have HLNE := Lib.hid hLne
        have hkn2 : k ≤ n := by omega
        clear hoe hlL hy hyo hyz hLne hLk hkl hin hkn
        go_wp2_with fail
        refine (scut_ok (C.sub HS3.out) HG4.out HO4.out HD4.out k o HLNE.out (.inl ⟨y, HYY.out.1, HYY.out.2.1, HYY.out.2.2⟩) H5.out).mono ?_
        rintro e w6 ⟨rfl, P6, A6, Ad6, D6, hs6, hG6, hD6, hO6, hsm6, hus6, -, hH6⟩
        have H6 := Lib.hid hH6
        have HS6 := Lib.hid (HS3.out.trans hs6)
        have HT6 := Lib.hid hs6
        have HG6 : Hid (SgM s ⟨d, segNm 0, 0, 60, L.take k, sizes (L.take k)⟩ A6) := hG6
        have HO6 : Hid (SegOn D6 ⟨d, segNm 0, 0, 60, L.take k, sizes (L.take k)⟩) := hO6
        have HD6 : Hid (DkM P6 d D6 Ad6) := hD6
        have hn6 : D6.nm.length = 1 := by rw [hsm6.nmq]; exact HN4.out.1
        have hkp6 : D6.kp = D6.nm := hsm6.kpq HN4.out.2.1
        have hch6 : D6.ch = [] := by
          have h1 := hsm6.ch
          have h2 := HN4.out.2.2.1
          exact List.eq_nil_of_length_eq_zero (by omega)
        have hr6 : D6.room = 1048576 := by rw [hsm6.room]; exact HN4.out.2.2.2
        have HN6 : Hid (D6.nm.length = 1 ∧ D6.kp = D6.nm ∧ D6.ch = [] ∧ D6.room = 1048576) := ⟨hn6, hkp6, hch6, hr6⟩
        have hen6 : Sg.end_ ⟨d, segNm 0, 0, 60, L.take k, sizes (L.take k)⟩ = o := HKO.out
        have HEN6 := Lib.hid hen6
        have hsy6 : synF (sizes (L.take k)) ((0 : Nat) : Int) (L.take k) = o := by rw [synF_all]; exact HKO.out
        have HSY6 := Lib.hid hsy6
        clear hH6 hs6 hG6 hO6 hD6 hsm6 hus6 hn6 hkp6 hch6 hr6 hen6 hsy6
        go_wp2_with fail
        refine (end_any HG6.out HO6.out.W H6.out).mono ?_
        rintro e w7 ⟨rfl, hH7⟩
        rw [HEN6.out]
        have H7 := Lib.hid hH7
        clear hH7
        go_wp2_with fail
        refine (ssynced_ok HG6.out HO6.out.W H7.out).mono ?_
        rintro e w8 ⟨rfl, hH8⟩
        rw [show synF (Sg.kept ⟨d, segNm 0, 0, 60, L.take k, sizes (L.take k)⟩) ((Sg.base ⟨d, segNm 0, 0, 60, L.take k, sizes (L.take k)⟩ : Nat) : Int) (Sg.l ⟨d, segNm 0, 0, 60, L.take k, sizes (L.take k)⟩) = o from HSY6.out]
        have H8 := Lib.hid hH8
        obtain ⟨f6, hl6, hb6, hk6⟩ := HO6.out.f
        have hl6' : D6.look (segNm 0) = some f6 := hl6
        have hb6' : f6.b = flatB (L.take k) := hb6
        have hk6' : f6.s = sizes (L.take k) := hk6
        have hfl6 : f6.b.length = sizes (L.take k) := by rw [hb6', flatB_len]
        have hnm6 := nm_one hl6' HN6.out.1
        have hu6 : f6.b.length ≤ D6.used := used_ge hl6'
        have hu62 := HO6.out.used
        have hu63 := HN6.out.2.2.2
        have HL6 := Lib.hid hl6'
        have HNM6 : Hid (D6.kp = [(segNm 0, f6.blk)]) := by show _ = _; rw [HN6.out.2.1]; exact hnm6
        have HF6 := Lib.hid (look_some hl6').2
        have hle6 : f6.s ≤ f6.b.length := by omega
        have heq6 : f6.s = f6.b.length := by omega
        have hbl6 : f6.b.length ≤ 1099511627776 := by omega
        have HEQ6 := Lib.hid heq6
        clear hH8 hl6 hb6 hk6 hl6' hb6' hk6' hfl6 hnm6 hu6 hu62 hu63 heq6
        go_wp2_with fail
        refine (crash1_ok HD6.out HNM6.out HN6.out.2.2.1 f6 HF6.out hle6 hbl6 a2 ps cap2 (HCQ.out.sub HS6.out) (Hp.mid H8.out)).mono ?_
        rintro e w9 ⟨rfl, p9, P9, A9, hp9, hs9, hD9, hH9⟩
        obtain ⟨hO9, hn9, hk9, hr9⟩ := crash1_on HO6.out HL6.out HN6.out.2.1 HEQ6.out p9 hp9
        have HN9 : Hid ((D6.crash1 f6 p9).nm.length = 1 ∧ (D6.crash1 f6 p9).room = 1048576) := ⟨by rw [hn9]; exact HN6.out.1, by rw [hr9]; exact HN6.out.2.2.2⟩
        have H9 := Lib.hid hH9
        have HS9 := Lib.hid (HS6.out.trans hs9)
        have HT9 := Lib.hid (HT6.out.trans hs9)
        have HO9 := Lib.hid hO9
        have HD9 := Lib.hid hD9
        clear hp9 hs9 hD9 hH9 hO9 hn9 hk9 hr9 hle6 hbl6
        go_wp2_with fail
        refine (sopen_on (C.sub HS9.out) HD9.out 0 60 (by decide) (by decide) (L.take k) (sizes (L.take k)) HO9.out HCHK.out H9.out).mono ?_
        rintro e w10 ⟨s10, P10, As10, A10, D10, rfl, hs10, hG10, hD10, hO10, hsm10, -, -, hH10⟩
        obtain ⟨F10, hF10⟩ : ∃ F, F = A6 ++ ([] : Mm) := ⟨_, rfl⟩
        rw [← hF10] at hH10
        have hn10 : D10.nm.length = 1 := by rw [hsm10.nmq]; exact HN9.out.1
        have hr10 : D10.room = 1048576 := by rw [hsm10.room]; exact HN9.out.2
        have hu10 : D10.used = sizes (L.take k) := segon_used hO10 hn10
        have hG10' : SgM s10 ⟨d, segNm 0, 0, 60, L.take k, sizes (L.take k)⟩ As10 := hG10
        have H10 := Lib.hid hH10
        have HS10 := Lib.hid (HS9.out.trans hs10)
        have HT10 := Lib.hid (HT9.out.trans hs10)
        have HG10 := Lib.hid hG10'
        have HO10 := Lib.hid hO10
        have HD10 := Lib.hid hD10
        have HU10 : Hid (D10.room = 1048576 ∧ D10.used = sizes (L.take k)) := ⟨hr10, hu10⟩
        clear hs10 hG10 hG10' hD10 hO10 hsm10 hH10 hn10 hr10 hu10 hF10
        go_wp2_with fail
        refine (end_any HG10.out HO10.out.W H10.out).mono ?_
        rintro e w11 ⟨rfl, hH11⟩
        rw [HEN6.out]
        have H11 := Lib.hid hH11
        clear hH11
        go_wp2_with fail
        go_loopg [19] (n - k) (fun m vi wr => CutsRel P10 F10 d s10 L (sizes (L.take k)) n m vi wr)
        case atStart => exact ⟨k, P10, As10, A10, D10, by omega, rfl, Sub.refl P10, HG10.out, HD10.out, HO10.out, HU10.out.1, HU10.out.2, H11.out⟩
        case round =>
          obtain ⟨i, P12, A12, Ad12, D12, hi, rfl, hs12, hG12, hD12, hO12, hr12, hu12, hHr⟩ := hrel
          by_cases hlt : i < n
          · obtain ⟨gj, rfl⟩ : ∃ x, gk = x + 1 := ⟨gk - 1, by omega⟩
            have hil : i < L.length := by rw [HN.out]; exact hlt
            have hio : i < out2.length := by rw [HON.out]; exact hlt
            obtain ⟨gl, ol, cap, hvv, hcp, hbc⟩ := HB3.out.at_ hio
            simp only [Value.slice.injEq] at hvv
            obtain ⟨rfl, -, rfl⟩ := hvv
            have hx : (out2[i]'hio).1 = L[i] := by have := HM2.out; subst this; simp
            obtain ⟨x, hxd⟩ : ∃ x, x = L[i] := ⟨_, rfl⟩
            obtain ⟨p2, hp2⟩ : ∃ p2, (out2[i]'hio).2 = p2 := ⟨_, rfl⟩
            rw [show out2[i]'hio = (x, p2) from Prod.ext (hx.trans hxd.symm) hp2] at hbc
            have hbc12 := hbc.sub (HT10.out.trans hs12)
            obtain ⟨-, c0, c1, c2, hrc⟩ := hHr.use hbc12
            obtain ⟨ra, rc, hrs⟩ := hrc.shape
            obtain rfl : p2 = .slice ra x.r.length rc := hrs
            have hbv : Pers P12 (fun w => BtV w (.agg #[.int .i64 x.b, .int .i64 x.e, .slice ra x.r.length rc]) x) := hbc12.imp (fun w1 h => ⟨_, rfl, h.2.2.2.2⟩)
            obtain ⟨hxo, hxb⟩ := HOK.out x (by rw [hxd]; exact List.getElem_mem hil)
            have hfoll : (⟨d, segNm 0, 0, 60, L.take i, sizes (L.take k)⟩ : Sg).foll x = true := foll_chain rfl rfl rfl (m := L.drop (i + 1)) (by rw [hxd, take_split L i hil]; exact HCH.out)
            have hsk := sizes_take L i hil
            rw [← hxd] at hsk
            have htn := take_next L i hil
            rw [← hxd] at htn
            have hst : sizes (L.take (i + 1)) = sizes (L.take i) + szB x := by rw [htn, sizes_app]; simp [sizes]
            have hup : D12.used + szB x ≤ D12.room := by rw [hu12, hr12]; have := HSZ.out; omega
            have j1 : (i : Int) < (n : Int) := by omega
            have j2 : (0 : Int) ≤ (i : Int) := by omega
            have HBV := Lib.hid hbv
            have HR := Lib.hid hHr
            have HFO := Lib.hid hfoll
            have HTN := Lib.hid htn
            have HST := Lib.hid hst
            have HUP := Lib.hid hup
            have HU12 := Lib.hid hu12
            have HR12 := Lib.hid hr12
            have HG12 := Lib.hid hG12
            have HD12 := Lib.hid hD12
            have HO12 := Lib.hid hO12
            have HS12 := Lib.hid hs12
            have HXO := Lib.hid hxo
            have HXB := Lib.hid hxb
            clear hbv hHr hfoll htn hst hup hu12 hr12 hG12 hD12 hO12 hs12 hxo hxb hbc hbc12 hrc hx hxd hsk
            go_wp2_with fail
            refine (sappend_on (C.sub (HS10.out.trans HS12.out)) HG12.out HO12.out HD12.out x HXO.out HXB.out _ HBV.out HFO.out HUP.out HR.out).mono ?_
            rintro e w13 ⟨rfl, P13, A13, Ad13, D13, hs13, hG13, hD13, hO13, hsm13, hus13, -, hH13⟩
            have hrel13 : CutsRel P10 F10 d s10 L (sizes (L.take k)) n gj (.int .i64 ((i + 1 : Nat) : Int)) w13 :=
              ⟨i + 1, P13, A13, Ad13, D13, by omega, rfl, HS12.out.trans hs13, by rw [HTN.out]; exact hG13, hD13, by rw [HTN.out]; exact hO13, by rw [hsm13.room]; exact HR12.out, by rw [hus13, HU12.out, HST.out], hH13⟩
            have HR13 := Lib.hid hrel13
            clear hrel13 hH13 hG13 hD13 hO13 hsm13 hus13 hs13
            go_wp2_with fail
            go_roundg gj
            case measure => omega
            case rel => exact HR13.out
          · have hin : i = n := by omega
            have e : L.take i = L := by rw [hin, ← HN.out]; exact List.take_length
            rw [e] at hG12 hO12
            have hen12 : Sg.end_ ⟨d, segNm 0, 0, 60, L, sizes (L.take k)⟩ = en := HEN.out
            have HEN12 := Lib.hid hen12
            have HR := Lib.hid hHr
            have HG12 := Lib.hid hG12
            have HO12 := Lib.hid hO12
            have HS12 := Lib.hid hs12
            clear hHr hG12 hO12 hs12 hen12 e hD12 hu12 hr12
            go_wp2_with fail
            refine (end_any HG12.out HO12.out.W HR.out).mono ?_
            rintro e w14 ⟨rfl, hH14⟩
            rw [HEN12.out]
            have HB14 := Lib.hid (hH14.to_below (HS10.out.trans HS12.out))
            clear hH14
            go_wp2_with fail
            go_ret
            exact ⟨by simp, HB14.out⟩
      · have hbe : (o == en) = true := by simp [hoe]
        have hk0 : ¬ (n : Int) < 0 := by omega
        have HKO : Hid (endOf ((0 : Nat) : Int) (L.take n) = o) := by
          show _ = _
          rw [← HN.out, List.take_length, HEN.out]
          exact hoe.symm
        have HCHK : Hid (Chain ((0 : Nat) : Int) 0 (L.take n)) := by
          show Chain _ _ _
          rw [← HN.out, List.take_length]
          exact HCH.out
        have HOE := Lib.hid hoe
        have HYZ := Lib.hid hyz
        clear hlL hoe hyz hin
        go_wp2_with fail
        refine (scut_end (C.sub HS3.out) HG4.out HO4.out HD4.out n HN.out o (HOE.out.trans HEN4.out.symm) HYZ.out H5.out).mono ?_
        rintro e w6 ⟨rfl, P6, A6, Ad6, D6, hs6, hG6, hD6, hO6, hsm6, hus6, -, hH6⟩
        have H6 := Lib.hid hH6
        have HS6 := Lib.hid (HS3.out.trans hs6)
        have HT6 := Lib.hid hs6
        have HG6 : Hid (SgM s ⟨d, segNm 0, 0, 60, L.take n, sizes (L.take n)⟩ A6) := hG6
        have HO6 : Hid (SegOn D6 ⟨d, segNm 0, 0, 60, L.take n, sizes (L.take n)⟩) := hO6
        have HD6 : Hid (DkM P6 d D6 Ad6) := hD6
        have hn6 : D6.nm.length = 1 := by rw [hsm6.nmq]; exact HN4.out.1
        have hkp6 : D6.kp = D6.nm := hsm6.kpq HN4.out.2.1
        have hch6 : D6.ch = [] := by
          have h1 := hsm6.ch
          have h2 := HN4.out.2.2.1
          exact List.eq_nil_of_length_eq_zero (by omega)
        have hr6 : D6.room = 1048576 := by rw [hsm6.room]; exact HN4.out.2.2.2
        have HN6 : Hid (D6.nm.length = 1 ∧ D6.kp = D6.nm ∧ D6.ch = [] ∧ D6.room = 1048576) := ⟨hn6, hkp6, hch6, hr6⟩
        have hen6 : Sg.end_ ⟨d, segNm 0, 0, 60, L.take n, sizes (L.take n)⟩ = o := HKO.out
        have HEN6 := Lib.hid hen6
        have hsy6 : synF (sizes (L.take n)) ((0 : Nat) : Int) (L.take n) = o := by rw [synF_all]; exact HKO.out
        have HSY6 := Lib.hid hsy6
        clear hH6 hs6 hG6 hO6 hD6 hsm6 hus6 hn6 hkp6 hch6 hr6 hen6 hsy6
        go_wp2_with fail
        refine (end_any HG6.out HO6.out.W H6.out).mono ?_
        rintro e w7 ⟨rfl, hH7⟩
        rw [HEN6.out]
        have H7 := Lib.hid hH7
        clear hH7
        go_wp2_with fail
        refine (ssynced_ok HG6.out HO6.out.W H7.out).mono ?_
        rintro e w8 ⟨rfl, hH8⟩
        rw [show synF (Sg.kept ⟨d, segNm 0, 0, 60, L.take n, sizes (L.take n)⟩) ((Sg.base ⟨d, segNm 0, 0, 60, L.take n, sizes (L.take n)⟩ : Nat) : Int) (Sg.l ⟨d, segNm 0, 0, 60, L.take n, sizes (L.take n)⟩) = o from HSY6.out]
        have H8 := Lib.hid hH8
        obtain ⟨f6, hl6, hb6, hk6⟩ := HO6.out.f
        have hl6' : D6.look (segNm 0) = some f6 := hl6
        have hb6' : f6.b = flatB (L.take n) := hb6
        have hk6' : f6.s = sizes (L.take n) := hk6
        have hfl6 : f6.b.length = sizes (L.take n) := by rw [hb6', flatB_len]
        have hnm6 := nm_one hl6' HN6.out.1
        have hu6 : f6.b.length ≤ D6.used := used_ge hl6'
        have hu62 := HO6.out.used
        have hu63 := HN6.out.2.2.2
        have HL6 := Lib.hid hl6'
        have HNM6 : Hid (D6.kp = [(segNm 0, f6.blk)]) := by show _ = _; rw [HN6.out.2.1]; exact hnm6
        have HF6 := Lib.hid (look_some hl6').2
        have hle6 : f6.s ≤ f6.b.length := by omega
        have heq6 : f6.s = f6.b.length := by omega
        have hbl6 : f6.b.length ≤ 1099511627776 := by omega
        have HEQ6 := Lib.hid heq6
        clear hH8 hl6 hb6 hk6 hl6' hb6' hk6' hfl6 hnm6 hu6 hu62 hu63 heq6
        go_wp2_with fail
        refine (crash1_ok HD6.out HNM6.out HN6.out.2.2.1 f6 HF6.out hle6 hbl6 a2 ps cap2 (HCQ.out.sub HS6.out) (Hp.mid H8.out)).mono ?_
        rintro e w9 ⟨rfl, p9, P9, A9, hp9, hs9, hD9, hH9⟩
        obtain ⟨hO9, hn9, hk9, hr9⟩ := crash1_on HO6.out HL6.out HN6.out.2.1 HEQ6.out p9 hp9
        have HN9 : Hid ((D6.crash1 f6 p9).nm.length = 1 ∧ (D6.crash1 f6 p9).room = 1048576) := ⟨by rw [hn9]; exact HN6.out.1, by rw [hr9]; exact HN6.out.2.2.2⟩
        have H9 := Lib.hid hH9
        have HS9 := Lib.hid (HS6.out.trans hs9)
        have HT9 := Lib.hid (HT6.out.trans hs9)
        have HO9 := Lib.hid hO9
        have HD9 := Lib.hid hD9
        clear hp9 hs9 hD9 hH9 hO9 hn9 hk9 hr9 hle6 hbl6
        go_wp2_with fail
        refine (sopen_on (C.sub HS9.out) HD9.out 0 60 (by decide) (by decide) (L.take n) (sizes (L.take n)) HO9.out HCHK.out H9.out).mono ?_
        rintro e w10 ⟨s10, P10, As10, A10, D10, rfl, hs10, hG10, hD10, hO10, hsm10, -, -, hH10⟩
        obtain ⟨F10, hF10⟩ : ∃ F, F = A6 ++ ([] : Mm) := ⟨_, rfl⟩
        rw [← hF10] at hH10
        have hn10 : D10.nm.length = 1 := by rw [hsm10.nmq]; exact HN9.out.1
        have hr10 : D10.room = 1048576 := by rw [hsm10.room]; exact HN9.out.2
        have hu10 : D10.used = sizes (L.take n) := segon_used hO10 hn10
        have hG10' : SgM s10 ⟨d, segNm 0, 0, 60, L.take n, sizes (L.take n)⟩ As10 := hG10
        have H10 := Lib.hid hH10
        have HS10 := Lib.hid (HS9.out.trans hs10)
        have HT10 := Lib.hid (HT9.out.trans hs10)
        have HG10 := Lib.hid hG10'
        have HO10 := Lib.hid hO10
        have HD10 := Lib.hid hD10
        have HU10 : Hid (D10.room = 1048576 ∧ D10.used = sizes (L.take n)) := ⟨hr10, hu10⟩
        clear hs10 hG10 hG10' hD10 hO10 hsm10 hH10 hn10 hr10 hu10 hF10
        go_wp2_with fail
        refine (end_any HG10.out HO10.out.W H10.out).mono ?_
        rintro e w11 ⟨rfl, hH11⟩
        rw [HEN6.out]
        have H11 := Lib.hid hH11
        clear hH11
        go_wp2_with fail
        go_loopg [19] (n - n) (fun m vi wr => CutsRel P10 F10 d s10 L (sizes (L.take n)) n m vi wr)
        case atStart => exact ⟨n, P10, As10, A10, D10, by omega, rfl, Sub.refl P10, HG10.out, HD10.out, HO10.out, HU10.out.1, HU10.out.2, H11.out⟩
        case round =>
          obtain ⟨i, P12, A12, Ad12, D12, hi, rfl, hs12, hG12, hD12, hO12, hr12, hu12, hHr⟩ := hrel
          by_cases hlt : i < n
          · obtain ⟨gj, rfl⟩ : ∃ x, gk = x + 1 := ⟨gk - 1, by omega⟩
            have hil : i < L.length := by rw [HN.out]; exact hlt
            have hio : i < out2.length := by rw [HON.out]; exact hlt
            obtain ⟨gl, ol, cap, hvv, hcp, hbc⟩ := HB3.out.at_ hio
            simp only [Value.slice.injEq] at hvv
            obtain ⟨rfl, -, rfl⟩ := hvv
            have hx : (out2[i]'hio).1 = L[i] := by have := HM2.out; subst this; simp
            obtain ⟨x, hxd⟩ : ∃ x, x = L[i] := ⟨_, rfl⟩
            obtain ⟨p2, hp2⟩ : ∃ p2, (out2[i]'hio).2 = p2 := ⟨_, rfl⟩
            rw [show out2[i]'hio = (x, p2) from Prod.ext (hx.trans hxd.symm) hp2] at hbc
            have hbc12 := hbc.sub (HT10.out.trans hs12)
            obtain ⟨-, c0, c1, c2, hrc⟩ := hHr.use hbc12
            obtain ⟨ra, rc, hrs⟩ := hrc.shape
            obtain rfl : p2 = .slice ra x.r.length rc := hrs
            have hbv : Pers P12 (fun w => BtV w (.agg #[.int .i64 x.b, .int .i64 x.e, .slice ra x.r.length rc]) x) := hbc12.imp (fun w1 h => ⟨_, rfl, h.2.2.2.2⟩)
            obtain ⟨hxo, hxb⟩ := HOK.out x (by rw [hxd]; exact List.getElem_mem hil)
            have hfoll : (⟨d, segNm 0, 0, 60, L.take i, sizes (L.take n)⟩ : Sg).foll x = true := foll_chain rfl rfl rfl (m := L.drop (i + 1)) (by rw [hxd, take_split L i hil]; exact HCH.out)
            have hsk := sizes_take L i hil
            rw [← hxd] at hsk
            have htn := take_next L i hil
            rw [← hxd] at htn
            have hst : sizes (L.take (i + 1)) = sizes (L.take i) + szB x := by rw [htn, sizes_app]; simp [sizes]
            have hup : D12.used + szB x ≤ D12.room := by rw [hu12, hr12]; have := HSZ.out; omega
            have j1 : (i : Int) < (n : Int) := by omega
            have j2 : (0 : Int) ≤ (i : Int) := by omega
            have HBV := Lib.hid hbv
            have HR := Lib.hid hHr
            have HFO := Lib.hid hfoll
            have HTN := Lib.hid htn
            have HST := Lib.hid hst
            have HUP := Lib.hid hup
            have HU12 := Lib.hid hu12
            have HR12 := Lib.hid hr12
            have HG12 := Lib.hid hG12
            have HD12 := Lib.hid hD12
            have HO12 := Lib.hid hO12
            have HS12 := Lib.hid hs12
            have HXO := Lib.hid hxo
            have HXB := Lib.hid hxb
            clear hbv hHr hfoll htn hst hup hu12 hr12 hG12 hD12 hO12 hs12 hxo hxb hbc hbc12 hrc hx hxd hsk
            go_wp2_with fail
            refine (sappend_on (C.sub (HS10.out.trans HS12.out)) HG12.out HO12.out HD12.out x HXO.out HXB.out _ HBV.out HFO.out HUP.out HR.out).mono ?_
            rintro e w13 ⟨rfl, P13, A13, Ad13, D13, hs13, hG13, hD13, hO13, hsm13, hus13, -, hH13⟩
            have hrel13 : CutsRel P10 F10 d s10 L (sizes (L.take n)) n gj (.int .i64 ((i + 1 : Nat) : Int)) w13 :=
              ⟨i + 1, P13, A13, Ad13, D13, by omega, rfl, HS12.out.trans hs13, by rw [HTN.out]; exact hG13, hD13, by rw [HTN.out]; exact hO13, by rw [hsm13.room]; exact HR12.out, by rw [hus13, HU12.out, HST.out], hH13⟩
            have HR13 := Lib.hid hrel13
            clear hrel13 hH13 hG13 hD13 hO13 hsm13 hus13 hs13
            go_wp2_with fail
            go_roundg gj
            case measure => omega
            case rel => exact HR13.out
          · have hin : i = n := by omega
            have e : L.take i = L := by rw [hin, ← HN.out]; exact List.take_length
            rw [e] at hG12 hO12
            have hen12 : Sg.end_ ⟨d, segNm 0, 0, 60, L, sizes (L.take n)⟩ = en := HEN.out
            have HEN12 := Lib.hid hen12
            have HR := Lib.hid hHr
            have HG12 := Lib.hid hG12
            have HO12 := Lib.hid hO12
            have HS12 := Lib.hid hs12
            clear hHr hG12 hO12 hs12 hen12 e hD12 hu12 hr12
            go_wp2_with fail
            refine (end_any HG12.out HO12.out.W HR.out).mono ?_
            rintro e w14 ⟨rfl, hH14⟩
            rw [HEN12.out]
            have HB14 := Lib.hid (hH14.to_below (HS10.out.trans HS12.out))
            clear hH14
            go_wp2_with fail
            go_ret
            exact ⟨by simp, HB14.out⟩
      · have hbe : (o == en) = false := by simp [hoe]
        have HOE := Lib.hid hoe
        have HYZ := Lib.hid hyz
        clear hlL hoe hyz hin
        go_wp2_with fail
        refine (scut_out (C.sub HS3.out) HG4.out HO4.out.W o (by rw [HEN4.out]; exact HOE.out) HYZ.out H5.out).mono ?_
        rintro e w6 ⟨rfl, P6, hs6, hH6⟩
        have hE19 := (C.errs.sub (HS3.out.trans hs6)) _ hH6.agr
        rw [hS19] at hE19
        have H6 := Lib.hid hH6
        have HE19 := Lib.hid hE19
        have HS6 := Lib.hid hs6
        clear hH6 hE19 hs6
        go_wp2_with fail
        rw [← ev_some (errAt W) 14]
        refine (is_any HE19.out (101 + 14) (.inr (by omega)) 115).mono ?_
        rintro e w7 ⟨rfl, hb7⟩
        have H7 := Lib.hid (H6.out.below hb7 (Nat.le_refl _))
        clear hb7
        go_wp2_with fail
        refine (end_any HG4.out HO4.out.W H7.out).mono ?_
        rintro e w8 ⟨rfl, hH8⟩
        rw [HEN4.out]
        have HB8 := Lib.hid (hH8.to_below (HS3.out.trans HS6.out))
        clear hH8
        go_wp2_with fail
        go_ret
        exact ⟨by simp, HB8.out⟩
end Go.Proofs.YtlkkagjpapjehaaGreatDoor.Sg

/-! SegCutsRow -/
namespace Go.Proofs.YtlkkagjpapjehaaGreatDoor.segCuts
open Go.ChangeShapes Go.WideShapes Go.ChangeAt Go.RowKit
open Go.Proofs.YtlkkagjpapjehaaGreatDoor.Sg
set_option linter.unusedVariables false

theorem own : ownKnob Tryz.prog.godebug = none := by kernel_rfl
theorem laidOut : laidOutB Tryz.prog = true := by kernel_rfl

theorem door_met (os : Os) (args : Array Value) : laidMetH Tryz.prog Rows.segCutsRow.laid ((World.doorLaid Tryz.prog 400 os).forCall (fun _ _ => 0) ⟨#[], args, []⟩).memory :=
  laidMetH_of_parts3 (fuel := 8) (laidMet_of_run' 8 (by kernel_rfl) (by kernel_rfl)) (by kernel_rfl) (by kernel_rfl)

theorem reads (os : Os) {H : Type} (enc : TypeId × Value → H) : ∃ places, DataW.whole enc Tryz.prog ((World.doorLaid Tryz.prog 400 os).forCall (fun _ _ => 0) ⟨#[], #[.slice none 0 0, .int .i64 0, .slice none 0 0], []⟩).memory Tryz.f10.params.toList Rows.segCutsSpec.vars false (#[.slice none 0 0, .int .i64 0, .slice none 0 0] : Array Value).toList 8 = some ([.nil, .lit (.int .i64 0), .nil], [], places) :=
  ⟨[], by kernel_rfl⟩

set_option maxRecDepth 100000 in
theorem contract (H : Type) (enc : TypeId × Value → H) (W : World) (base : Nat) (args : Array Value) (ds gs : List (DataW H)) (before : List MemPlace)
    (hval0 : ∀ (j : Nat) t v, Tryz.f10.params[j]? = some t → args[j]? = some v → Value.okWide Tryz.prog W .any base t v)
    (hW : DataW.Whole enc Tryz.prog Tryz.f10.params.toList Rows.segCutsSpec.vars false W args.toList ds gs before) (hL : laidMetH Tryz.prog Rows.segCutsRow.laid W) (hsh : W.ShapedOpen Tryz.prog) :
    Calls Tryz.prog 10 args W fun e W' => ∃ v, e = .returned v ∧ Rows.segCutsSpec.post enc Tryz.prog Tryz.f10 false true false false W args v W' := by
  have hval : ∀ (j : Nat) t v, Tryz.f10.params[j]? = some t → args[j]? = some v → Value.okWide Tryz.prog W .any base t v := hval0
  have hW' := hW
  obtain ⟨p, q, hA0, hV, rfl, hfz, hnd⟩ := hW
  have hA : DataW.TrodAll enc Tryz.prog W 0 (fun _ => true) true Tryz.f10.params.toList args.toList ds p := hA0
  rw [Tryz.params10] at hA hval
  obtain ⟨v0, vs0, d0, ds0, p0, q0, hargs, rfl, rfl, h0, r0⟩ := trodAll_cons hA
  obtain ⟨v1, vs1, d1, ds1, p1, q1, rfl, rfl, rfl, h1, r1⟩ := trodAll_cons r0
  obtain ⟨v2, vs2, d2, ds2, p2, q2, rfl, rfl, rfl, h2, r2⟩ := trodAll_cons r1
  obtain ⟨rfl, rfl, rfl⟩ := trodAll_nil r2
  obtain rfl : args = #[v0, v1, v2] := by cases args; simp_all
  obtain ⟨rfl, rfl⟩ := trodVars_none hV
  obtain ⟨a0, len0, cap0, rfl⟩ := okWide_slice Tryz.underlying22 (hval 0 22 v0 rfl rfl)
  have k0 := h0
  have lt0 : ∀ x ∈ p0, x.block < W.heap.size := by obtain ⟨m, hm⟩ := k0; exact DataW.trod_lt m _ _ _ hm
  obtain ⟨z0, w0⟩ : ∃ zs, IsRow W a0 len0 cap0 zs := by
    obtain ⟨fuel, hf⟩ := h0
    rcases open_ints Tryz.underlying22 Tryz.underlying3 (by kernel_rfl) hf with ⟨hcs, _⟩ | ⟨x, l, c, zs, hcs, _, hl, hm, hz, _, hcell, hwz⟩
    · simp [Value.cells] at hcs
      obtain ⟨rfl, rfl, rfl⟩ := hcs
      exact ⟨[], .inl ⟨rfl, rfl, rfl, rfl⟩⟩
    · simp [Value.cells] at hcs
      obtain ⟨rfl, rfl, rfl⟩ := hcs
      exact ⟨zs, .inr ⟨_, rfl, hl, hm, by simpa using hz, hcell, hwz⟩⟩
  obtain ⟨a1, rfl, rfl, rfl, w1⟩ := open_int Tryz.underlying2 (hval 1 2 v1 rfl rfl) h1
  obtain ⟨a2, len2, cap2, rfl⟩ := okWide_slice Tryz.underlying22 (hval 2 22 v2 rfl rfl)
  have k2 := h2
  have lt2 : ∀ x ∈ p2, x.block < W.heap.size := by obtain ⟨m, hm⟩ := k2; exact DataW.trod_lt m _ _ _ hm
  obtain ⟨z2, w2⟩ : ∃ zs, IsRow W a2 len2 cap2 zs := by
    obtain ⟨fuel, hf⟩ := h2
    rcases open_ints Tryz.underlying22 Tryz.underlying3 (by kernel_rfl) hf with ⟨hcs, _⟩ | ⟨x, l, c, zs, hcs, _, hl, hm, hz, _, hcell, hwz⟩
    · simp [Value.cells] at hcs
      obtain ⟨rfl, rfl, rfl⟩ := hcs
      exact ⟨[], .inl ⟨rfl, rfl, rfl, rfl⟩⟩
    · simp [Value.cells] at hcs
      obtain ⟨rfl, rfl, rfl⟩ := hcs
      exact ⟨zs, .inr ⟨_, rfl, hl, hm, by simpa using hz, hcell, hwz⟩⟩
  have hL0 := hL
  rw [MakeChecks.laidMetH_plain _ _ _ (by kernel_rfl)] at hL0
  obtain ⟨hT, hE⟩ := laid19 (W := W) hL0 (Er.gmax_le hsh)
  clear hA0 hval0
  refine (cuts_all a0 len0 cap0 z0 a1 a2 len2 cap2 z2 W w0 w2 l19_all rfl hE hT).mono fun e W' ⟨he, bel⟩ => ?_
  subst he
  exact ⟨_, rfl, _, _, _, [], _, [], hW', trodAll_mk1 (shut_bool Tryz.underlying4 _), (trodAll_cons_mk (Below.trod laidOut (by kernel_rfl) (of_decide_eq_true (by kernel_rfl)) k0 bel lt0) (trodAll_cons_mk (shut_int Tryz.underlying2 w1) (trodAll_cons_mk (Below.trod laidOut (by kernel_rfl) (of_decide_eq_true (by kernel_rfl)) k2 bel lt2) trodAll_mk0))), rfl, bel.frame _, fun h => by cases h⟩

set_option maxRecDepth 100000 in
theorem lifted (os : Os) (started : os.Started) (H : Type) (enc : TypeId × Value → H) (F : Stop.Interp) :
    ReturnsInHanded {} Tryz.checked os 10 .any ((OpenSpec.ofChange Rows.segCutsSpec).preRow enc Tryz.prog Tryz.f10 Rows.segCutsRow.domain false Rows.segCutsRow.laid) (((OpenSpec.ofChange Rows.segCutsSpec).at F).post enc Tryz.prog Tryz.f10 false true false false) := by
  obtain ⟨places, hx⟩ := reads os enc
  refine returnsInHanded_of_row (C := Tryz.checked) (s := OpenSpec.ofChange Rows.segCutsSpec) own started (by kernel_rfl) Tryz.func10
    (witness_row_atRef (enc := enc) (C := Tryz.checked) false (World.doorLaid Tryz.prog 400 os) #[.slice none 0 0, .int .i64 0, .slice none 0 0] rfl (by kernel_rfl) (by kernel_rfl) (by kernel_rfl)
      (OpenSpec.preRow_of_cond 8 hx (by kernel_rfl) (fun k hk => by cases hk) (by kernel_rfl) (door_met os _))) ?_
  intro W base args ds gs before hval hW _ _ _ hL hsh _
  exact contract H enc W base args ds gs before hval hW hL hsh

theorem said : Rows.SegCutsSaid :=
  OpenClaim.holds_of_cond 10 Tryz.f10 rfl rfl rfl rfl rfl rfl rfl ⟨rfl, rfl, rfl, rfl, rfl⟩ rfl rfl rfl rfl rfl (by kernel_rfl) Tryz.func10 (by kernel_rfl)
    (of_decide_eq_true (by kernel_rfl)) (by unfold Func.isWrapper; rw [if_neg (of_decide_eq_false (by kernel_rfl))]; exact ⟨rfl, rfl⟩)
    (fun os started H enc _ F => by rw [OpenClaim.pre_eq_preRow]; exact lifted os started H enc F)

theorem plain (f : FuncId) (fn : Func) (hf : Tryz.pinned.checked.prog.funcNamed "cordwood/cordwoodlaw7.SegCuts" = some f) (hfn : Tryz.pinned.checked.prog.funcs[f]? = some fn) :
    true = Tryz.pinned.checked.prog.looks [] ∧ ∀ (j : Nat) t, fn.params[j]? = some t → Tryz.pinned.checked.prog.wantsStandIn t = false := by
  obtain rfl : f = 10 := Option.some.inj ((show Tryz.prog.funcNamed "cordwood/cordwoodlaw7.SegCuts" = some 10 by kernel_rfl).symm.trans hf) |>.symm
  obtain rfl : fn = Tryz.f10 := (Option.some.inj (Tryz.func10.symm.trans hfn)).symm
  refine ⟨by kernel_rfl, fun j t ht => ?_⟩
  rw [Tryz.params10] at ht
  have hm := Array.mem_of_getElem? ht
  have hm := Array.mem_of_getElem? ht
  have ht2 : t = 22 ∨ t = 2 := by
    simp at hm
    rcases hm with h | h | h <;> simp [h]
  rcases ht2 with rfl | rfl
  · exact (show Tryz.prog.wantsStandIn 22 = false by kernel_rfl)
  · exact (show Tryz.prog.wantsStandIn 2 = false by kernel_rfl)

/-- THE CARD -/
theorem card : Rows.SegCutsCardSaid :=
  Claim7.holds_tied_plain_at .later [] _ _ _ _ said (fun _ h => by cases h) (by kernel_rfl) (fun _ h => by cases h) segCuts_row_tie rfl ⟨rfl, rfl⟩ (by kernel_rfl) rfl plain (by kernel_rfl)
#print axioms card
end Go.Proofs.YtlkkagjpapjehaaGreatDoor.segCuts
