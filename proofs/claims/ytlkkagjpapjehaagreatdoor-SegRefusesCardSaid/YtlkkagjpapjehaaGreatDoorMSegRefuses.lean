/- Refusals of seg.Create: numbers that may not be; a name that is there. cordwoodworld.Batch. An argument of type api.Batch, opened: what it holds in memory. cordwoodlaw7.SegRefuses answers true for every input. The statement SegRefuses of chapter 7 holds for every input: the call returns true and leaves its arguments as they were. -/
import Derived.Test.YtlkkagjpapjehaaGreatDoorMg
import Derived.Test.YtlkkagjpapjehaaGreatDoorMa
import Derived.Test.YtlkkagjpapjehaaGreatDoorMf
import Derived.Test.YtlkkagjpapjehaaGreatDoorCards
import Derived.Test.YtlkkagjpapjehaaGreatDoorTie
import Derived.Deep.Strs
import Derived.Lib.SmallJoins
import Derived.ProofKit
import Derived.OpenShut
import Derived.DataShut
import Derived.LaidMore
import Derived.Deep.DeepWitnessRowRef

/-! Rj -/
namespace Go.Proofs.YtlkkagjpapjehaaGreatDoor.Sg
open Go.RowKit Er Go.Maps

section
variable {S : List Nat} {E : Nat → Addr} {B : Nat} {P : Pm} {d : Nat} {D : Dk} {A F : Mm} {w : World}

set_option maxRecDepth 100000 in
set_option maxHeartbeats 400000 in
theorem screate_bad (C : Ctx S E B P) (base every : Int) (h : base < 0 ∨ 1099511627776 < base ∨ every < 1 ∨ 1048576 < every) (hH : Hp w P F) :
    Calls Tryz.prog 26 #[ptr d, .int .i64 base, .int .i64 every] w fun e w' => e = .returned (.tuple #[.pointer none, .iface 248 (.pointer (some (E 4)))]) ∧ Hp w' P F := by
  have HB := Lib.hid h
  clear h
  go_enter Tryz.func26, Tryz.ntmps26
  go_wp2_with fail
  refine (fresh_bad (d := d) C base every HB.out hH).mono ?_
  rintro e w1 ⟨rfl, hH1⟩
  have H1 := Lib.hid hH1
  clear hH1 hH
  go_wp2_with fail
  go_ret2
  exact ⟨rfl, H1.out⟩

set_option maxRecDepth 100000 in
set_option maxHeartbeats 400000 in
theorem create_there (C : Ctx S E B P) (hD : DkM P d D A) (hH : Hp w P (A ++ F)) (h : D.ok = true) (s : Nam) (hs : vname s = true) (b : Nat) (hsome : nfind D.nm s = some b) :
    Calls Tryz.prog 43 #[ptr d, str s] w fun e w' => e = .returned (.iface 248 (.pointer (some (E 7)))) ∧ ∃ A', DkM P d D.beg A' ∧ Hp w' P (A' ++ F) := by
  simp only [vname, Bool.and_eq_true, decide_eq_true_eq, List.all_eq_true] at hs
  obtain ⟨⟨s1, s2⟩, s3⟩ := hs
  have S3 : Hid (∀ (i : Nat) (h : i < s.length), nchar s[i] = true) := fun i h => s3 _ (List.getElem_mem h)
  obtain ⟨e1, e2, e3, e4, e5, e6, e7⟩ := beg_fl D
  have E2 := Lib.hid e2
  have HN := Lib.hid hsome
  clear s3 e1 e2 e3 e4 e5 e6 e7 hsome
  go_enter Tryz.func43, Tryz.ntmps43
  go_wp2_with fail
  refine (begin_ok C hD hH h).mono ?_
  rintro e w1 ⟨rfl, A1, hD1, hH1⟩
  have HD1 := Lib.hid hD1
  obtain ⟨nb, no, kb, ko, cv, Ac, Af, rfl, h2, h3, h4, h5, h6⟩ := hD1
  go_wp2_with fail
  refine (valid_yes s s1 s2 S3.out _).mono ?_
  rintro e w' ⟨rfl, rfl⟩
  have hlk := look_nm hH1 (nb := nb) (no := no) (by simp) h2 s (by omega)
  rw [E2.out, HN.out] at hlk
  simp only [optPtr] at hlk
  have dx := @Hp.cell _ _ _ hH1 d (dkCells D.beg nb kb cv) 123 (0, 0) (by simp)
  have d1 : w1.cell? ⟨d, 1, none⟩ = some (.map (some nb)) := dx rfl
  have ce : w1.cell? ⟨4, 0, none⟩ = some (.iface 248 (.pointer (some (E 7)))) := (hH1.use C.errs).at_ 7 (C.all 7 (by decide))
  have H1 := Lib.hid hH1
  clear dx hH1 h2 h3 h4 h5
  go_wp2_with fail
  go_ret
  exact ⟨rfl, _, HD1.out, H1.out⟩

set_option maxRecDepth 100000 in
set_option maxHeartbeats 400000 in
theorem screate_there (C : Ctx S E B P) (hD : DkM P d D A) (hI : DkI D) (base : Nat) (hb : base ≤ 1099511627776) (every : Nat) (h1 : 1 ≤ every) (h2 : every ≤ 1048576) (f : Fl) (hl : D.look (segNm base) = some f) (hH : Hp w P (A ++ F)) :
    Calls Tryz.prog 26 #[ptr d, .int .i64 base, .int .i64 every] w fun e w' => e = .returned (.tuple #[.pointer none, .iface 248 (.pointer (some (E 7)))]) ∧ ∃ A', Hp w' P (A' ++ F) := by
  obtain ⟨nm, hnm⟩ : ∃ nm, nm = segNm base := ⟨_, rfl⟩
  have hv : vname nm = true := by rw [hnm]; exact segNm_valid base
  rw [← hnm] at hl
  have hsg : sg0 d base every = ⟨d, nm, base, every, [], 0⟩ := by rw [hnm]; rfl
  have HG : Hid (sg0 d base every = ⟨d, nm, base, every, [], 0⟩) := hsg
  have H := Lib.hid hH
  have HV := Lib.hid hv
  have HL := Lib.hid (look_some hl).1
  clear hH hnm hsg hv hl
  go_enter Tryz.func26, Tryz.ntmps26
  go_wp2_with fail
  refine (fresh_ok (d := d) C base hb every h1 h2 H.out).mono ?_
  rintro e w1 ⟨s, As, rfl, hG, hH1⟩
  rw [HG.out] at hG
  obtain ⟨lv, -, k1, -, -, -, -⟩ := hG.cells hH1
  have H1 := Lib.hid hH1
  clear hH1
  go_wp2_with fail
  refine (create_there C hD (Hp.mid H1.out) hI.ok nm HV.out f.blk HL.out).mono ?_
  rintro e w2 ⟨rfl, A2, hD2, hH2⟩
  have H2 := Lib.hid (Hp.mid hH2).drop
  clear hH2
  go_wp2_with fail
  go_ret2
  exact ⟨rfl, A2, H2.out⟩

/-- Few and short records. -/
def light (x : Bt) : Bool := decide (x.r.length ≤ 70) && x.r.all fun y => decide (y.k.length ≤ 100) && decide (y.v.length ≤ 600)

set_option maxRecDepth 100000 in
set_option maxHeartbeats 1000000 in
theorem wbatch_any (x : Bt) (v : Value) (w : World) (h : BtV w v x) :
    Calls Tryz.prog 20 #[v] w fun e w' => e = .returned (.bool (light x)) ∧ Below w.heap.size w w' := by
  obtain ⟨rs, rfl, h⟩ := h
  obtain ⟨va, vc, rfl⟩ := h.shape
  have ha := (h.below ((Below.refl _ _).alloc (Nat.le_refl _) (.cells #[.int .i64 x.b, .int .i64 x.e, .slice va x.r.length vc] 40)) rfl)
  have HA := Lib.hid ha
  clear ha h
  have HB := Lib.hid ((Below.refl w.heap.size w).alloc (Nat.le_refl _) (.cells #[.int .i64 x.b, .int .i64 x.e, .slice va x.r.length vc] 40))
  by_cases hA : 70 < x.r.length
  · have hc : light x = false := by unfold light; simp; omega
    rw [hc]
    go_enter Tryz.func20, Tryz.ntmps20
    go_wp2_with fail
    go_ret
    exact ⟨rfl, HB.out⟩
  · have hA2 : x.r.length ≤ 70 := by omega
    obtain ⟨n, hn⟩ : ∃ n, x.r.length = n := ⟨_, rfl⟩
    rw [hn] at hA2 ⊢ HA HB
    have HN := Lib.hid hn
    have hc : light x = x.r.all fun y => decide (y.k.length ≤ 100) && decide (y.v.length ≤ 600) := by unfold light; rw [hn]; simp [hA2]
    rw [hc]
    clear hn hA hc
    go_enter Tryz.func20, Tryz.ntmps20
    go_wp2_with fail
    go_loopg [3] n (fun m vi wr => ∃ k : Nat, k + m = n ∧ vi = .int .i64 k ∧ ((x.r.take k).all fun y => decide (y.k.length ≤ 100) && decide (y.v.length ≤ 600)) = true ∧ wr = w.alloc (.cells #[.int .i64 x.b, .int .i64 x.e, .slice va n vc] 40))
    case atStart => exact ⟨0, by omega, rfl, rfl, rfl⟩
    case round =>
      obtain ⟨k, hk, rfl, hall, rfl⟩ := hrel
      by_cases hlt : k < n
      · obtain ⟨gj, rfl⟩ : ∃ x, gk = x + 1 := ⟨gk - 1, by omega⟩
        have hkl : k < x.r.length := by rw [HN.out]; exact hlt
        have hat := HA.out
        obtain ⟨g, off, cap, hv, hg, c0, kv, vv, c1, hk1, c2, hv1⟩ := hat.at_ hkl
        rw [HN.out] at hv
        cases hv
        obtain ⟨ka, kc, rfl, -⟩ := hk1.shape
        obtain ⟨wa, wc, rfl, -⟩ := hv1.shape
        have htk : ((x.r.take (k + 1)).all fun y => decide (y.k.length ≤ 100) && decide (y.v.length ≤ 600)) = (decide (x.r[k].k.length ≤ 100) && decide (x.r[k].v.length ≤ 600)) := by
          rw [take_next _ k hkl, List.all_append, hall]; simp
        have hbad : (decide (x.r[k].k.length ≤ 100) && decide (x.r[k].v.length ≤ 600)) = false → (x.r.all fun y => decide (y.k.length ≤ 100) && decide (y.v.length ≤ 600)) = false := fun h => by
          rw [List.all_eq_false]; exact ⟨x.r[k], List.getElem_mem hkl, by rw [h]; simp⟩
        obtain ⟨nk, hnk⟩ : ∃ n, x.r[k].k.length = n := ⟨_, rfl⟩
        obtain ⟨nv, hnv⟩ : ∃ n, x.r[k].v.length = n := ⟨_, rfl⟩
        rw [hnk] at c1 htk hbad
        rw [hnv] at c2 htk hbad
        have j2 : (k : Int) < (n : Int) := by omega
        have j3 : (0 : Int) ≤ (k : Int) := by omega
        have HTK := Lib.hid htk
        have HBAD := Lib.hid hbad
        clear hk1 hv1 hat htk hbad hnk hnv hall
        by_cases hq1 : 100 < nk
        · have hz : ¬ nk ≤ 100 := by omega
          go_wp2_with fail
          have hf := HBAD.out (by simp [hz])
          go_ret
          exact ⟨by rw [hf]; rfl, HB.out⟩
        · have hz : nk ≤ 100 := by omega
          by_cases hq2 : 600 < nv
          · have hz2 : ¬ nv ≤ 600 := by omega
            go_wp2_with fail
            have hf := HBAD.out (by simp [hz2])
            go_ret
            exact ⟨by rw [hf]; rfl, HB.out⟩
          · have hz2 : nv ≤ 600 := by omega
            go_wp2_with fail
            go_roundg gj
            case measure => omega
            case rel => exact ⟨k + 1, by omega, by simp, by rw [HTK.out]; simp [hz, hz2], rfl⟩
      · have hkn : k = n := by omega
        have e : x.r.take k = x.r := by rw [hkn, ← HN.out]; exact List.take_length
        rw [e] at hall
        have HALL := Lib.hid hall
        clear hall e
        go_wp2_with fail
        go_ret
        exact ⟨by rw [HALL.out]; rfl, HB.out⟩
end

end Go.Proofs.YtlkkagjpapjehaaGreatDoor.Sg

/-! Ob -/
namespace Go.Proofs.YtlkkagjpapjehaaGreatDoor.Sg
open Go.ChangeShapes Go.WideShapes Go.RowKit Go.Deep Go.Joins Er

section
variable {H : Type} {enc : TypeId × Value → H} {W : World}

theorem add_none {w : World} {a : Addr} {u : Value} (h : w.cell? a = some u) : ∃ b off, a = ⟨b, off, none⟩ ∧ b < w.heap.size := by
  have hs := World.cell?_spot h
  obtain ⟨b, off, spot⟩ := a
  simp only at hs
  subst hs
  exact ⟨b, off, rfl, World.block_lt_of_cell? _ _ h⟩

theorem open_u8s {n : Nat} {kv : Value} {y : DataW H × List MemPlace} (h : DataW.trod enc Tryz.prog W 0 (fun _ => true) true n 44 [kv] = some y) : ∃ xs : List Nat, SlB W kv xs ∧ ∀ b ∈ xs, b < 256 := by
  rcases open_ints Tryz.underlying44 Tryz.underlying5 (by kernel_rfl) h with ⟨hcs, _⟩ | ⟨a, l, c, zs, hcs, _, hl, hm, hz, _, hcell, hwz⟩
  · simp at hcs; subst hcs; exact ⟨[], SlB.nil _, by simp⟩
  · simp at hcs
    subst hcs
    simp only [if_true] at hz
    by_cases h0 : l = 0
    · subst h0; exact ⟨[], Or.inr (Or.inr ⟨a, c, rfl, rfl⟩), by simp⟩
    · obtain ⟨b, off, rfl, hb⟩ := add_none (by have := hcell 0 (by omega); simpa [Addr.add] using this)
      have hl2 : ((zs.take l).map Int.toNat).length = l := by simp; omega
      refine ⟨(zs.take l).map Int.toNat, Or.inr (Or.inl ⟨b, off, c, by rw [hl2], by rw [hl2]; exact hl, hb, fun i x hx => ?_⟩), fun x hx => ?_⟩
      · rw [List.getElem?_map, Option.map_eq_some_iff] at hx
        obtain ⟨z, hz1, rfl⟩ := hx
        rw [List.getElem?_take] at hz1
        split at hz1
        · have hi : i < zs.length := (List.getElem?_eq_some_iff.1 hz1).1
          have h1 := hcell i hi
          rw [List.getD_eq_getElem?_getD, hz1, addr_add'] at h1
          rw [h1]
          have h2 := (Lit.wf_int_iff _ _).1 (hwz z (List.mem_of_getElem? hz1))
          simp only [Option.getD_some, IntKind.min, IntKind.max, IntKind.signed, IntKind.bits] at h2 ⊢
          simp at h2
          congr 2
          omega
        · cases hz1
      · obtain ⟨z, hz1, rfl⟩ := List.mem_map.1 hx
        have h2 := (Lit.wf_int_iff _ _).1 (hwz z (List.mem_of_mem_take hz1))
        simp only [IntKind.min, IntKind.max, IntKind.signed, IntKind.bits] at h2
        simp at h2
        omega

theorem list_of {α : Type} {p : Nat → α → Prop} : ∀ n, (∀ i, i < n → ∃ x, p i x) → ∃ l : List α, l.length = n ∧ ∀ i x, l[i]? = some x → p i x
  | 0, _ => ⟨[], rfl, fun i x h => by simp at h⟩
  | n + 1, h => by
    obtain ⟨l, h1, h2⟩ := list_of n (fun i hi => h i (by omega))
    obtain ⟨x, hx⟩ := h n (by omega)
    refine ⟨l ++ [x], by simp [h1], fun i y hy => ?_⟩
    rw [List.getElem?_append] at hy
    split at hy
    · exact h2 i y hy
    · have : i = n := by
        have := (List.getElem?_eq_some_iff.1 hy).1
        simp at this; omega
      subst this
      simp [h1] at hy
      subst hy; exact hx

set_option maxRecDepth 100000 in
theorem open_recs {n : Nat} {rv : Value} {y : DataW H × List MemPlace} (h : DataW.trod enc Tryz.prog W 0 (fun _ => true) true n 38 [rv] = some y) :
    ∃ L : List Rc, RcsV W rv L ∧ ∀ r ∈ L, (∀ b ∈ r.k, b < 256) ∧ (∀ b ∈ r.v, b < 256) := by
  have hc3 : Tryz.prog.cellsOf 67 = 3 := by kernel_rfl
  have hc1 : Tryz.prog.cellsOf 2 = 1 := by kernel_rfl
  have hc2 : Tryz.prog.cellsOf 44 = 1 := by kernel_rfl
  rcases open_slice Tryz.underlying38 h with ⟨hcs, _⟩ | ⟨a, l, c, m, q, D, Pl, hcs, _, hl, hm, hmm, _, hel⟩
  · simp at hcs; subst hcs; exact ⟨[], Or.inl ⟨rfl, rfl⟩, by simp⟩
  · simp at hcs
    subst hcs
    simp only [if_true] at hmm
    subst hmm
    by_cases h0 : l = 0
    · subst h0; exact ⟨[], Or.inr (Or.inr ⟨a, m, rfl, rfl⟩), by simp⟩
    · have one : ∀ i, i < l → ∃ (r : Rc), (W.cell? (a.add (i * 3)) = some (.int .i64 r.t) ∧ ∃ kv vv, W.cell? ((a.add (i * 3)).add 1) = some kv ∧ SlB W kv r.k ∧ W.cell? ((a.add (i * 3)).add 2) = some vv ∧ SlB W vv r.v) ∧ (∀ b ∈ r.k, b < 256) ∧ (∀ b ∈ r.v, b < 256) := by
        intro i hi
        obtain ⟨cs', h1, h2⟩ := hel i (by omega)
        rw [hc3] at h1
        obtain ⟨_, hlen, hat⟩ := World.cells?_some h1
        obtain ⟨c0, c1, c2, rfl⟩ : ∃ c0 c1 c2, cs' = [c0, c1, c2] := by
          match cs', hlen with
          | [c0, c1, c2], _ => exact ⟨c0, c1, c2, rfl⟩
        obtain ⟨y0, y1, y2, n', -, -, e0, e1, e2⟩ := trod_struct3 Tryz.underlying67 h2
        dsimp only at e0 e1 e2
        rw [hc1] at e0
        rw [hc2] at e1 e2
        obtain ⟨t, ht, -, -⟩ := DataW.trod_int Tryz.underlying2 e0
        obtain ⟨k, hk, hkb⟩ := open_u8s (kv := c1) e1
        obtain ⟨v, hv, hvb⟩ := open_u8s (kv := c2) e2
        have a0 := hat 0 (by omega)
        have a1 := hat 1 (by omega)
        have a2 := hat 2 (by omega)
        simp at ht a0 a1 a2
        subst ht
        exact ⟨⟨t, k, v⟩, ⟨by simpa [Addr.add] using a0, c1, c2, a1, hk, a2, hv⟩, hkb, hvb⟩
      obtain ⟨L, hL, hp⟩ := list_of l one
      obtain ⟨b, off, rfl, hb⟩ : ∃ b off, a = ⟨b, off, none⟩ ∧ b < W.heap.size := by
        obtain ⟨r, ⟨h1, -⟩, -⟩ := one 0 (by omega)
        exact add_none (by simpa [Addr.add] using h1)
      subst hL
      refine ⟨L, Or.inr (Or.inl ⟨b, off, m, rfl, hl, hb, fun k x hx => ?_⟩), fun r hr => ?_⟩
      · obtain ⟨⟨h1, kv, vv, h2, h3, h4, h5⟩, -⟩ := hp k x hx
        rw [addr_add'] at h1 h2 h4
        rw [addr_add'] at h2 h4
        exact ⟨h1, kv, vv, h2, h3, h4, h5⟩
      · obtain ⟨i, hi⟩ := List.getElem?_of_mem hr
        exact (hp i r hi).2

set_option maxRecDepth 100000 in
/-- An argument of type api.Batch. -/
theorem open_batch {base : Nat} {v : Value} {d : DataW H} {ps : List MemPlace} (hval : Value.okWide Tryz.prog W .any base 40 v) (h : DataW.Trod enc Tryz.prog W 0 (fun _ => true) true 40 v d ps) :
    ∃ x : Bt, BtV W v x ∧ BtBy x := by
  obtain ⟨v0, v1, v2, y0, y1, y2, n, rfl, -, -, e0, e1, e2⟩ := open_agg3 Tryz.underlying40 (by kernel_rfl) (by kernel_rfl) hval h
  dsimp only at e0 e1 e2
  obtain ⟨b, hb, -, -⟩ := DataW.trod_int Tryz.underlying2 e0
  obtain ⟨e, he, -, -⟩ := DataW.trod_int Tryz.underlying3 e1
  obtain ⟨L, hL, hLb⟩ := open_recs e2
  simp at hb he
  subst hb he
  exact ⟨⟨b, e, L⟩, ⟨v2, rfl, hL⟩, hLb⟩
end

end Go.Proofs.YtlkkagjpapjehaaGreatDoor.Sg

/-! Lz -/
namespace Go.Proofs.YtlkkagjpapjehaaGreatDoor.Sg
open Go.RowKit Er Go.Maps

theorem sizes_le (L : List Bt) (h : ∀ x, x ∈ L → BtOk x) : sizes L ≤ L.length * 38816 := by
  induction L with
  | nil => simp [sizes]
  | cons x L ih =>
    have h1 := szB_le x (h x List.mem_cons_self)
    have h2 := ih (fun y hy => h y (List.mem_cons_of_mem _ hy))
    simp only [sizes, List.map_cons, List.sum_cons, List.length_cons] at h2 ⊢
    omega
theorem look_only {D : Dk} {s : Nam} {f : Fl} (h : D.look s = some f) (hn : D.nm.length = 1) (s' : Nam) (hs : s' ≠ s) : D.look s' = none := by
  have h1 := nfind_mem (look_some h).1
  cases hf : nfind D.nm s' with
  | none => unfold Dk.look; rw [hf]; rfl
  | some b =>
    have h2 := nfind_mem hf
    match hnm : D.nm, hn with
    | [p], _ =>
      rw [hnm] at h1 h2
      simp at h1 h2
      rw [← h1] at h2
      exact absurd (congrArg Prod.fst h2) hs
theorem vcode_range (x : Bt) : vcode x = 0 ∨ 101 ≤ vcode x ∧ vcode x < 120 := by
  unfold vcode
  split
  · omega
  · split
    · omega
    · split <;> omega
theorem bt_pers {W : World} {v : Value} {x : Bt} (h : BtV W v x) : Pers (Pm.start W) (fun w => BtV w v x) := fun w hw =>
  h.below ((Pers.upd (w := W) (M := []) w hw).to_below (Nat.le_refl _) (by simp [ids])) rfl

set_option maxRecDepth 100000 in
set_option maxHeartbeats 16000000 in
theorem refuses_all (a0 : Option Addr) (len0 cap0 : Nat) (z0 : List Int) (vb : Value) (x : Bt) (bz ez : Int) (W : World) (h : IsRow W a0 len0 cap0 z0) (hb : BtV W vb x) (hby : BtBy x)
    {S : List Nat} (hS : ∀ i, i < 10 ∨ i = 14 → i ∈ S) (hS19 : S = List.range 19) (hE : Errs S W (errAt W) W.heap.size)
    (hT : Lib.TabIs Tryz.prog W "internal/strconv.uint64pow10" .u64 Lib.pow10Tab) :
    Calls Tryz.prog 4 #[.slice a0 len0 cap0, vb, .int .i64 bz, .int .i64 ez] W fun e W' => e = .returned (.bool true) ∧ Below W.heap.size W W' := by
  have hvP0 := bt_pers hb
  obtain ⟨rs, rfl, hrs⟩ := hb
  obtain ⟨ra, rc, rfl⟩ := hrs.shape
  obtain ⟨P0, hs0, hH0, hm0⟩ := (Hp.start W).lay (.cells #[.int .i64 x.b, .int .i64 x.e, .slice ra x.r.length rc] 40)
  have hbx : Pers P0 (fun w => w.cell? ⟨W.heap.size, 0, none⟩ = some (.int .i64 x.b) ∧ w.cell? ⟨W.heap.size, 1, none⟩ = some (.int .i64 x.e) ∧ w.cell? ⟨W.heap.size, 2, none⟩ = some (.slice ra x.r.length rc)) := fun w hw => by
    have hb := hw.m _ _ hm0
    refine ⟨?_, ?_, ?_⟩ <;> simp [World.cell?, hb]
  have C0 := ctx_start hS hE hT
  have C := C0.sub hs0
  obtain ⟨xs, rfl, hC⟩ := isRow_C h
  have hCp := (ints_pers hC).sub hs0
  have H0 := Lib.hid hH0
  have HVP := Lib.hid (hvP0.sub hs0)
  have HBX := Lib.hid hbx
  have HXB := Lib.hid hby
  have HST := Lib.hid hs0
  have HCP := Lib.hid hCp
  clear h hC hE hT hvP0 hrs hs0 hH0 hm0 hbx C0 hby hCp
  by_cases hlen : 10 < xs.length
  · clear HCP
    go_enter Tryz.func4, Tryz.ntmps4
    go_wp2_with fail
    refine (first_ok C H0.out).mono ?_
    rintro e w1 ⟨rfl, P1, hs1, hH1⟩
    have HB := Lib.hid (hH1.to_below (HST.out.trans hs1))
    clear hH1 hs1
    go_wp2_with fail
    go_ret
    exact ⟨rfl, HB.out⟩
  by_cases hlt : light x = false
  · have HLT := Lib.hid hlt
    clear HCP hlt
    go_enter Tryz.func4, Tryz.ntmps4
    go_wp2_with fail
    refine (first_ok C H0.out).mono ?_
    rintro e w1 ⟨rfl, P1, hs1, hH1⟩
    obtain ⟨k0, k1, k2⟩ := hH1.use (HBX.out.sub hs1)
    have H1 := Lib.hid hH1
    have HS1 := Lib.hid hs1
    clear hH1 hs1
    go_wp2_with fail
    refine (wbatch_any x _ _ (H1.out.use (HVP.out.sub HS1.out))).mono ?_
    rintro e w2 ⟨rfl, hb2⟩
    rw [HLT.out]
    have HB := Lib.hid ((H1.out.below hb2 (Nat.le_refl _)).to_below (HST.out.trans HS1.out))
    clear hb2
    go_wp2_with fail
    go_ret
    exact ⟨rfl, HB.out⟩
  have hlt1 : light x = true := by simpa using hlt
  have hn70 : x.r.length ≤ 70 := by
    unfold light at hlt1
    simp only [Bool.and_eq_true, decide_eq_true_eq] at hlt1
    exact hlt1.1
  have HLT := Lib.hid hlt1
  have hl1 : xs.length ≤ 10 := by omega
  clear hlen hlt hlt1
  have hcr : (bz < 0 ∨ 1099511627776 < bz ∨ ez < 1 ∨ 1048576 < ez) ∨ (bz = 0 ∧ 1 ≤ ez ∧ ez ≤ 1048576) ∨ ∃ bn : Nat, bz = bn ∧ 0 < bn ∧ bn ≤ 1099511627776 ∧ 1 ≤ ez ∧ ez ≤ 1048576 := by
    by_cases q : bz < 0 ∨ 1099511627776 < bz ∨ ez < 1 ∨ 1048576 < ez
    · exact .inl q
    · by_cases q0 : bz = 0
      · exact .inr (.inl ⟨q0, by omega, by omega⟩)
      · exact .inr (.inr ⟨bz.toNat, by omega, by omega, by omega, by omega, by omega⟩)
  have HCR0 := Lib.hid hcr
  have hok := row_ok 2 xs 0 ((0 : Nat) : Int) (by omega) (by omega) (by omega)
  have hch := row_chain 2 xs 0 ((0 : Nat) : Int) 0 (by have := (rEp_mono 2 0).2; omega)
  have hlen2 := row_len 2 xs 0 ((0 : Nat) : Int)
  obtain ⟨L, hLd⟩ : ∃ L, L = rowGo 2 xs 0 ((0 : Nat) : Int) := ⟨_, rfl⟩
  rw [← hLd] at hch hok hlen2
  have hsz := sizes_le L (fun x hx => (hok x hx).1)
  obtain ⟨n, hn⟩ : ∃ n, L.length = n := ⟨_, rfl⟩
  rw [hn] at hlen2 hsz
  have hflq : (flatB L).length = sizes L := flatB_len L
  obtain ⟨sL, hsL⟩ : ∃ n, sizes L = n := ⟨_, rfl⟩
  rw [hsL] at hsz hflq
  obtain ⟨en, hen⟩ : ∃ en, endOf ((0 : Nat) : Int) L = en := ⟨_, rfl⟩
  obtain ⟨la, hla⟩ : ∃ la, epOf 0 L = la := ⟨_, rfl⟩
  obtain ⟨c, hc⟩ : ∃ c, vcode x = c := ⟨_, rfl⟩
  have hcr2 := vcode_range x
  rw [hc] at hcr2
  have hn10 : n ≤ 10 := by omega
  have HLD := Lib.hid hLd
  have HCH := Lib.hid hch
  have HOK := Lib.hid hok
  have HSL := Lib.hid hsL
  have HN := Lib.hid hn
  have HFL := Lib.hid hflq
  have HEN := Lib.hid hen
  have HLA := Lib.hid hla
  have HC := Lib.hid hc
  have HCR := Lib.hid hcr2
  clear hLd hch hok hlen2 hn hflq hsL hen hla hc hcr2 hcr
  go_enter Tryz.func4, Tryz.ntmps4
  go_wp2_with fail
  refine (first_ok C H0.out).mono ?_
  rintro e w1 ⟨rfl, P1, hs1, hH1⟩
  obtain ⟨k0, k1, k2⟩ := hH1.use (HBX.out.sub hs1)
  have H1 := Lib.hid hH1
  have HS1 := Lib.hid hs1
  clear hH1 hs1
  go_wp2_with fail
  refine (wbatch_any x _ _ (H1.out.use (HVP.out.sub HS1.out))).mono ?_
  rintro e w2 ⟨rfl, hb2⟩
  rw [HLT.out]
  have H2 := Lib.hid (H1.out.below hb2 (Nat.le_refl _))
  clear hb2 k0 k1 k2
  go_wp2_with fail
  refine (row_p H2.out a0 xs cap0 (HCP.out.sub HS1.out) 2 (by decide) (by omega) 0 (by decide) (by decide)).mono ?_
  rintro e w2 ⟨v2, P2, out2, rfl, hs2, hm2', hb2, hH2⟩
  have hm2 : out2.map (·.1) = L := hm2'.trans HLD.out.symm
  have hon : out2.length = n := by rw [← HN.out, ← hm2, List.length_map]
  obtain ⟨va, vc, rfl, hvc⟩ := hb2.shape
  rw [hon] at hb2 hvc ⊢
  have H2' := Lib.hid hH2
  have HB2 := Lib.hid hb2
  have HM2 := Lib.hid hm2
  have HON := Lib.hid hon
  have HS2 := Lib.hid (HS1.out.trans hs2)
  clear hH2 hb2 hm2' hm2 hs2 hon
  go_wp2_with fail
  refine (made_ok (C.sub HS2.out) 0 (by decide) 100 (by decide) (by decide) _ out2 HB2.out L HM2.out HCH.out HOK.out (by rw [HSL.out]; omega) H2'.out).mono ?_
  rintro e w3 ⟨d, s, P3, A, Ad, D, rfl, hs3, hG, hD, hO, hroom, hused, hq2', hq1', hq3', hH3⟩
  have hq1 : D.n ≤ 10 := by omega
  have hq2 : D.nm.length ≤ 10 := by omega
  have hq3 : D.ch.length ≤ 10 := by omega
  obtain ⟨fz, hlk0, -, -⟩ := hO.f
  have hlkn : ∀ s', s' ≠ segNm 0 → D.look s' = none := look_only hlk0 hq2'
  have HLKN := Lib.hid hlkn
  have HLK0 := Lib.hid hlk0
  have HROOM0 : Hid (D.room = 1048576 ∧ D.used = sL) := ⟨hroom, by rw [hused, HSL.out]⟩
  have HS3 := Lib.hid (HS2.out.trans hs3)
  have HB3 := Lib.hid (HB2.out.sub hs3)
  have H3 := Lib.hid hH3
  have HG := Lib.hid hG
  have HO := Lib.hid hO
  have HD := Lib.hid hD
  have hEN2 : Sg.end_ ⟨d, segNm 0, 0, 100, L, 0⟩ = en := HEN.out
  have HEN2 := Lib.hid hEN2
  clear hs3 hH3 hG hO hD hEN2 hroom hused hq2' hq1' hq3' hlkn hlk0
  go_wp2_with fail
  refine (sraw_on (C.sub HS3.out) HG.out HO.out HD.out H3.out).mono ?_
  rintro e w4 ⟨v4, P4, rfl, hs4, hp4, hH4⟩
  obtain ⟨va4, vc4, rfl, -⟩ := (hH4.use hp4).shape
  have hq : (flatB (⟨d, segNm 0, 0, 100, L, 0⟩ : Sg).l).length = sL := HFL.out
  rw [hq] at hp4 ⊢
  have H4' := Lib.hid hH4
  have HP4 := Lib.hid hp4
  have HS4 := Lib.hid (HS3.out.trans hs4)
  have HD4 := Lib.hid (HD.out.sub hs4)
  have HB4 := Lib.hid (HB3.out.sub hs4)
  clear hH4 hp4 hs4 hq
  have HBX4 := Lib.hid (HBX.out.sub HS4.out)
  have hlc : (n = 0 ∧ la = 0) ∨ ∃ j y, n = j + 1 ∧ la = y.e ∧ L[j]? = some y := by
    have h1 := HN.out
    have h2 := HLA.out
    rcases lastCases L with h | ⟨l0, y, h⟩
    · left; rw [h] at h1 h2; exact ⟨by simpa using h1.symm, h2.symm⟩
    · right
      rw [h, epOf_snoc] at h2
      rw [h] at h1
      refine ⟨l0.length, y, by simpa using h1.symm, h2.symm, by rw [h]; simp⟩
  obtain ⟨k0, k1, k2⟩ := H4'.out.use HBX4.out
  rcases hlc with ⟨rfl, rfl⟩ | ⟨j, y, rfl, rfl, hLj⟩
  · go_wp2_with fail
    refine (rvalid_any x (by omega) _ _ (H4'.out.use (HVP.out.sub HS4.out))).mono ?_
    rintro e w5 ⟨rfl, hb5⟩
    have H4 := Lib.hid (H4'.out.below hb5 (Nat.le_refl _))
    obtain ⟨hlk0, hlkn⟩ : D.look (segNm 0) = some fz ∧ ∀ s', s' ≠ segNm 0 → D.look s' = none := ⟨HLK0.out, HLKN.out⟩
    have hcr := HCR0.out
    rw [HC.out]
    clear hb5 k0 k1 k2
    by_cases hc0 : c = 0
    · subst hc0
      rw [show ((0 : Nat) : Int) = 0 from rfl]
      have hxo : BtOk x := vcode_ok x HC.out
      have HXO := Lib.hid hxo
      have hszx := szB_le x hxo
      clear hxo
      by_cases hbe : x.b = en
      · have HEQ := Lib.hid hbe
        by_cases hel : x.e < 0
        · have HLT := Lib.hid hel
          have HNF : Hid (Sg.foll ⟨d, segNm 0, 0, 100, L, 0⟩ x = false) := by
            show Sg.foll _ x = false
            unfold Sg.foll
            rw [end_eq, lastE_eq]
            show (decide (x.b = endOf ((0 : Nat) : Int) L) && decide (epOf 0 L ≤ x.e)) = false
            rw [HEN.out, HLA.out]
            simp; omega
          clear hbe hel
          go_wp2_with fail
          refine wp_region_hp (by kernel_rfl) (by decide) _ _ H4.out (fun i _ v => match i with | 0 => v = .int .i64 0 | 1 => v = .bool true | 2 => v = .bool true | 3 => v = .pointer (some ⟨W.heap.size, 0, none⟩) | 4 => v = .int .i64 x.b | 5 => v = ptr s | 6 => v = .int .i64 en | 7 => v = .bool false | 8 => v = .bool false | 9 => v = .pointer (some ⟨W.heap.size, 1, none⟩) | 10 => v = .int .i64 x.e | 11 => v = .int .i64 0 | 12 => v = .bool true | 13 => v = .bool true | 14 => v = .bool true | _ => True) (by intro i P P' v _ h; exact h) ?_ ?_
          · intro i o ho u wq Pq hsq hHq hp K hK
            rcases i with _ | _ | _ | _ | _ | _ | _ | _ | _ | _ | _ | _ | _ | _ | _ | i
            · cases ho
              simp only [frOf, Act.put, List.setIfInBounds_toArray, List.set_cons_zero, List.set_cons_succ, Nat.zero_add, Nat.reduceAdd] at hK ⊢
              go_simp
              exact hK _ wq Pq (Sub.refl _) hHq rfl
            · cases ho
              have h0 : u 0 = .int .i64 0 := hp ⟨0, .data⟩ (by simp) rfl
              simp only [frOf, Act.put, List.setIfInBounds_toArray, List.set_cons_zero, List.set_cons_succ, Nat.zero_add, Nat.reduceAdd] at hK ⊢
              simp only [h0] at hK ⊢
              go_simp
              exact hK _ wq Pq (Sub.refl _) hHq rfl
            · cases ho
              have h1 : u 1 = .bool true := hp ⟨1, .data⟩ (by simp) rfl
              simp only [frOf, Act.put, List.setIfInBounds_toArray, List.set_cons_zero, List.set_cons_succ, Nat.zero_add, Nat.reduceAdd] at hK ⊢
              simp only [h1] at hK ⊢
              go_simp
              exact hK _ wq Pq (Sub.refl _) hHq rfl
            · cases ho
              have h2 : u 2 = .bool true := hp ⟨2, .guard⟩ (by simp) rfl
              simp only [frOf, Act.put, List.setIfInBounds_toArray, List.set_cons_zero, List.set_cons_succ, Nat.zero_add, Nat.reduceAdd] at hK ⊢
              simp only [h2] at hK ⊢
              go_simp
              exact hK _ wq Pq (Sub.refl _) hHq rfl
            · cases ho
              have h3 : u 3 = .pointer (some ⟨W.heap.size, 0, none⟩) := hp ⟨3, .data⟩ (by simp) rfl
              have h2 : u 2 = .bool true := hp ⟨2, .guard⟩ (by simp) rfl
              simp only [frOf, Act.put, List.setIfInBounds_toArray, List.set_cons_zero, List.set_cons_succ, Nat.zero_add, Nat.reduceAdd] at hK ⊢
              simp only [h3, h2] at hK ⊢
              obtain ⟨k0, k1, k2⟩ := hHq.use (HBX4.out.sub hsq)
              go_simp
              exact hK _ wq Pq (Sub.refl _) hHq rfl
            · cases ho
              have h2 : u 2 = .bool true := hp ⟨2, .guard⟩ (by simp) rfl
              simp only [frOf, Act.put, List.setIfInBounds_toArray, List.set_cons_zero, List.set_cons_succ, Nat.zero_add, Nat.reduceAdd] at hK ⊢
              simp only [h2] at hK ⊢
              go_simp
              exact hK _ wq Pq (Sub.refl _) hHq rfl
            · cases ho
              have h5 : u 5 = ptr s := hp ⟨5, .data⟩ (by simp) rfl
              have h2 : u 2 = .bool true := hp ⟨2, .guard⟩ (by simp) rfl
              simp only [frOf, Act.put, List.setIfInBounds_toArray, List.set_cons_zero, List.set_cons_succ, Nat.zero_add, Nat.reduceAdd] at hK ⊢
              simp only [h5, h2] at hK ⊢
              go_simp
              with_reducible refine (end_any HG.out HO.out.W hHq).mono ?_
              rintro e w3 ⟨rfl, hH3⟩
              rw [HEN2.out]
              exact hK _ w3 Pq (Sub.refl _) hH3 rfl
            · cases ho
              have h4 : u 4 = .int .i64 x.b := hp ⟨4, .data⟩ (by simp) rfl
              have h6 : u 6 = .int .i64 en := hp ⟨6, .data⟩ (by simp) rfl
              have h2 : u 2 = .bool true := hp ⟨2, .guard⟩ (by simp) rfl
              simp only [frOf, Act.put, List.setIfInBounds_toArray, List.set_cons_zero, List.set_cons_succ, Nat.zero_add, Nat.reduceAdd] at hK ⊢
              simp only [h4, h6, h2] at hK ⊢
              go_simp
              exact hK _ wq Pq (Sub.refl _) hHq (by simp [HEQ.out])
            · cases ho
              have h7 : u 7 = .bool false := hp ⟨7, .data⟩ (by simp) rfl
              have h2 : u 2 = .bool true := hp ⟨2, .guard⟩ (by simp) rfl
              simp only [frOf, Act.put, List.setIfInBounds_toArray, List.set_cons_zero, List.set_cons_succ, Nat.zero_add, Nat.reduceAdd] at hK ⊢
              simp only [h7, h2] at hK ⊢
              go_simp
              exact hK _ wq Pq (Sub.refl _) hHq rfl
            · cases ho
              have h8 : u 8 = .bool false := hp ⟨8, .guard⟩ (by simp) rfl
              simp only [frOf, Act.put, List.setIfInBounds_toArray, List.set_cons_zero, List.set_cons_succ, Nat.zero_add, Nat.reduceAdd] at hK ⊢
              simp only [h8] at hK ⊢
              go_simp
              exact hK _ wq Pq (Sub.refl _) hHq rfl
            · cases ho
              have h9 : u 9 = .pointer (some ⟨W.heap.size, 1, none⟩) := hp ⟨9, .data⟩ (by simp) rfl
              have h8 : u 8 = .bool false := hp ⟨8, .guard⟩ (by simp) rfl
              simp only [frOf, Act.put, List.setIfInBounds_toArray, List.set_cons_zero, List.set_cons_succ, Nat.zero_add, Nat.reduceAdd] at hK ⊢
              simp only [h9, h8] at hK ⊢
              obtain ⟨k0, k1, k2⟩ := hHq.use (HBX4.out.sub hsq)
              go_simp
              exact hK _ wq Pq (Sub.refl _) hHq rfl
            · cases ho
              have h8 : u 8 = .bool false := hp ⟨8, .guard⟩ (by simp) rfl
              simp only [frOf, Act.put, List.setIfInBounds_toArray, List.set_cons_zero, List.set_cons_succ, Nat.zero_add, Nat.reduceAdd] at hK ⊢
              simp only [h8] at hK ⊢
              go_simp
              exact hK _ wq Pq (Sub.refl _) hHq rfl
            · cases ho
              have h10 : u 10 = .int .i64 x.e := hp ⟨10, .data⟩ (by simp) rfl
              have h11 : u 11 = .int .i64 0 := hp ⟨11, .data⟩ (by simp) rfl
              have h8 : u 8 = .bool false := hp ⟨8, .guard⟩ (by simp) rfl
              simp only [frOf, Act.put, List.setIfInBounds_toArray, List.set_cons_zero, List.set_cons_succ, Nat.zero_add, Nat.reduceAdd] at hK ⊢
              simp only [h10, h11, h8] at hK ⊢
              go_simp
              exact hK _ wq Pq (Sub.refl _) hHq (by simp [HLT.out])
            · cases ho
              have h8 : u 8 = .bool false := hp ⟨8, .data⟩ (by simp) rfl
              have h12 : u 12 = .bool true := hp ⟨12, .data⟩ (by simp) rfl
              have h2 : u 2 = .bool true := hp ⟨2, .guard⟩ (by simp) rfl
              simp only [frOf, Act.put, List.setIfInBounds_toArray, List.set_cons_zero, List.set_cons_succ, Nat.zero_add, Nat.reduceAdd] at hK ⊢
              simp only [h8, h12, h2] at hK ⊢
              go_simp
              exact hK _ wq Pq (Sub.refl _) hHq rfl
            · cases ho
              have h2 : u 2 = .bool true := hp ⟨2, .data⟩ (by simp) rfl
              have h13 : u 13 = .bool true := hp ⟨13, .data⟩ (by simp) rfl
              simp only [frOf, Act.put, List.setIfInBounds_toArray, List.set_cons_zero, List.set_cons_succ, Nat.zero_add, Nat.reduceAdd] at hK ⊢
              simp only [h2, h13] at hK ⊢
              go_simp
              exact hK _ wq Pq (Sub.refl _) hHq rfl
            · exact absurd ho (by simp)
          · intro u wq Pq hsq hHq hR
            have h14 : u 14 = .bool true := hR 14 (by decide)
            simp only [frOf, List.setIfInBounds_toArray, List.set_cons_zero, List.set_cons_succ, Nat.zero_add, Nat.reduceAdd]
            simp only [h14]
            have H5 := Lib.hid (hHq.weaken hsq)
            obtain ⟨k0, k1, k2⟩ := H5.out.use HBX4.out
            clear hR hHq hsq h14
            go_wp2_with fail
            refine (sappend_shape (C.sub HS4.out) HG.out HO.out x HXO.out HXB.out _ (HVP.out.sub HS4.out) HNF.out H5.out).mono ?_
            rintro e w6 ⟨rfl, P6, hs6, hH6⟩
            have HY := Lib.hid hH6
            have HSY := Lib.hid (HS4.out.trans hs6)
            have HS6 := Lib.hid hs6
            have HGY := HG
            have HOY := HO
            have HDY := Lib.hid (HD4.out.sub hs6)
            clear hH6 k0 k1 k2 hs6
            have hEy := (C.errs.sub HSY.out) _ HY.out.agr
            rw [hS19] at hEy
            have HEY := Lib.hid hEy
            clear hEy
            go_wp2_with fail
            refine (sraw_on (C.sub HSY.out) HGY.out HOY.out HDY.out HY.out).mono ?_
            rintro e w8 ⟨v8, P8, rfl, hs8, hp8, hH8⟩
            obtain ⟨va8, vc8, rfl, -⟩ := (hH8.use hp8).shape
            obtain ⟨fl8, hfl8⟩ : ∃ f, (flatB (⟨d, segNm 0, 0, 100, L, 0⟩ : Sg).l).length = f := ⟨_, rfl⟩
            rw [hfl8] at hp8 ⊢
            have H8 := Lib.hid hH8
            have HP8 := Lib.hid hp8
            have HS8 := Lib.hid hs8
            have HSZ := Lib.hid (HSY.out.trans hs8)
            have HDZ := Lib.hid (HDY.out.sub hs8)
            have hE8 := (C.errs.sub HSZ.out) _ hH8.agr
            rw [hS19] at hE8
            have HE8 := Lib.hid hE8
            have HFL8 := Lib.hid hfl8
            clear hH8 hp8 hs8 hE8 hfl8
            go_wp2_with fail

            have HS48 := Lib.hid (HS6.out.trans HS8.out)
            rw [← ev_some (errAt W) 2]
            refine (is_any HE8.out (101 + 2) (.inr (by omega)) 103).mono ?_
            rintro e w9 ⟨rfl, hb9⟩
            have H9 := Lib.hid (H8.out.below hb9 (Nat.le_refl _))
            clear hb9
            go_wp2_with fail

            refine (samebytes_ok _ _ (flatB L) _ (H9.out.use (HP4.out.sub HS48.out)) (H9.out.use HP8.out) (by rw [HFL.out]; omega)).mono ?_
            rintro e w10 ⟨rfl, hb10⟩
            have HZ := Lib.hid (H9.out.below hb10 (Nat.le_refl _))
            clear hb10
            have HIZ := Lib.hid HO.out.I
            have HLZ := Lib.hid hlk0
            have HNZ := Lib.hid hlkn
            have HQ1 := Lib.hid hq1
            have HQ2 := Lib.hid hq2
            have HQ3 := Lib.hid hq3
            have HQ4 := Lib.hid HO.out.room
            have HQ5 := Lib.hid HO.out.used

            go_wp2_with fail
            rcases hcr with hbad | ⟨hb0, hev1, hev2⟩ | ⟨bn, hbn, hbn1, hbn2, hev1, hev2⟩
            · go_wp2_with fail
              refine (screate_bad (d := d) (C.sub HSZ.out) bz ez hbad HZ.out).mono ?_
              rintro e wc ⟨rfl, hHc⟩
              have hEc := (C.errs.sub HSZ.out) _ hHc.agr
              rw [hS19] at hEc
              have Hc := Lib.hid hHc
              have HEc := Lib.hid hEc
              clear hHc hEc

              have hq : bz < 0 ∨ (¬ bz < 0 ∧ 1099511627776 < bz) ∨ (¬ bz < 0 ∧ ¬ 1099511627776 < bz ∧ ez < 1) ∨ (¬ bz < 0 ∧ ¬ 1099511627776 < bz ∧ ¬ ez < 1 ∧ 1048576 < ez) := by omega
              clear hbad
              rcases hq with q1 | ⟨q1, q2⟩ | ⟨q1, q2, q3⟩ | ⟨q1, q2, q3, q4⟩
              · go_wp2_with fail
                rw [← ev_some (errAt W) 4]
                refine (is_any HEc.out (101 + 4) (.inr (by omega)) 105).mono ?_
                rintro e w20 ⟨rfl, hb20⟩
                have HB20 := Lib.hid ((Hc.out.below hb20 (Nat.le_refl _)).to_below (HST.out.trans HSZ.out))
                clear hb20
                go_wp2_with fail
                go_ret
                exact ⟨rfl, HB20.out⟩

              · go_wp2_with fail
                rw [← ev_some (errAt W) 4]
                refine (is_any HEc.out (101 + 4) (.inr (by omega)) 105).mono ?_
                rintro e w20 ⟨rfl, hb20⟩
                have HB20 := Lib.hid ((Hc.out.below hb20 (Nat.le_refl _)).to_below (HST.out.trans HSZ.out))
                clear hb20
                go_wp2_with fail
                go_ret
                exact ⟨rfl, HB20.out⟩

              · go_wp2_with fail
                rw [← ev_some (errAt W) 4]
                refine (is_any HEc.out (101 + 4) (.inr (by omega)) 105).mono ?_
                rintro e w20 ⟨rfl, hb20⟩
                have HB20 := Lib.hid ((Hc.out.below hb20 (Nat.le_refl _)).to_below (HST.out.trans HSZ.out))
                clear hb20
                go_wp2_with fail
                go_ret
                exact ⟨rfl, HB20.out⟩

              · go_wp2_with fail
                rw [← ev_some (errAt W) 4]
                refine (is_any HEc.out (101 + 4) (.inr (by omega)) 105).mono ?_
                rintro e w20 ⟨rfl, hb20⟩
                have HB20 := Lib.hid ((Hc.out.below hb20 (Nat.le_refl _)).to_below (HST.out.trans HSZ.out))
                clear hb20
                go_wp2_with fail
                go_ret
                exact ⟨rfl, HB20.out⟩

            · subst hb0
              obtain ⟨en2, rfl⟩ : ∃ n : Nat, ez = (n : Int) := ⟨ez.toNat, by omega⟩
              go_wp2_with fail
              refine (screate_there (C.sub HSZ.out) HDZ.out HIZ.out 0 (by decide) en2 (by omega) (by omega) fz HLZ.out (Hp.mid HZ.out)).mono ?_
              rintro e wc ⟨rfl, Ac, hHc⟩
              have hEc := (C.errs.sub HSZ.out) _ hHc.agr
              rw [hS19] at hEc
              have Hc := Lib.hid hHc
              have HEc := Lib.hid hEc
              clear hHc hEc

              go_wp2_with fail
              rw [← ev_some (errAt W) 7]
              refine (is_any HEc.out (101 + 7) (.inr (by omega)) 108).mono ?_
              rintro e w20 ⟨rfl, hb20⟩
              have HB20 := Lib.hid ((Hc.out.below hb20 (Nat.le_refl _)).to_below (HST.out.trans HSZ.out))
              clear hb20
              go_wp2_with fail
              go_ret
              exact ⟨rfl, HB20.out⟩

            · obtain ⟨en2, rfl⟩ : ∃ n : Nat, ez = (n : Int) := ⟨ez.toNat, by omega⟩
              subst hbn
              have hbn3 : ¬ bn = 0 := by omega
              go_wp2_with fail
              refine (screate_on (C.sub HSZ.out) HDZ.out HIZ.out bn (by omega) en2 (by omega) (by omega) (HNZ.out _ (fun e => hbn3 (segNm_inj bn 0 (by omega) (by omega) e))) (by have := HQ1.out; omega) (by have := HQ2.out; omega) (by have := HQ3.out; omega) HQ4.out HQ5.out (Hp.mid HZ.out)).mono ?_
              rintro e wc ⟨sc, Asc, Adc, Dc, rfl, hGc, -, hOc, -, -, -, -, -, -, hHc⟩
              have Hc := Lib.hid hHc
              have HGc := Lib.hid hGc
              have HOc := Lib.hid hOc
              have HEc : Hid (Sg.end_ ⟨d, segNm bn, bn, en2, [], 0⟩ = (bn : Int)) := rfl
              clear hHc hGc hOc
              go_wp2_with fail
              refine (end_any HGc.out HOc.out.W Hc.out).mono ?_
              rintro e w20 ⟨rfl, hH20⟩
              rw [HEc.out]
              have HB20 := Lib.hid (hH20.to_below (HST.out.trans HSZ.out))
              clear hH20
              go_wp2_with fail
              go_ret
              exact ⟨by simp [hbn3], HB20.out⟩

        · have HGE := Lib.hid hel
          have HF : Hid (Sg.foll ⟨d, segNm 0, 0, 100, L, 0⟩ x = true) := by
            show Sg.foll _ x = true
            unfold Sg.foll
            rw [end_eq, lastE_eq]
            show (decide (x.b = endOf ((0 : Nat) : Int) L) && decide (epOf 0 L ≤ x.e)) = true
            rw [HEN.out, HLA.out]
            simp; omega
          have HROOM : Hid (D.used + szB x ≤ D.room) := by have := HROOM0.out; show _ ≤ _; omega
          clear hbe hel
          go_wp2_with fail
          refine wp_region_hp (by kernel_rfl) (by decide) _ _ H4.out (fun i _ v => match i with | 0 => v = .int .i64 0 | 1 => v = .bool true | 2 => v = .bool true | 3 => v = .pointer (some ⟨W.heap.size, 0, none⟩) | 4 => v = .int .i64 x.b | 5 => v = ptr s | 6 => v = .int .i64 en | 7 => v = .bool false | 8 => v = .bool false | 9 => v = .pointer (some ⟨W.heap.size, 1, none⟩) | 10 => v = .int .i64 x.e | 11 => v = .int .i64 0 | 12 => v = .bool false | 13 => v = .bool false | 14 => v = .bool false | _ => True) (by intro i P P' v _ h; exact h) ?_ ?_
          · intro i o ho u wq Pq hsq hHq hp K hK
            rcases i with _ | _ | _ | _ | _ | _ | _ | _ | _ | _ | _ | _ | _ | _ | _ | i
            · cases ho
              simp only [frOf, Act.put, List.setIfInBounds_toArray, List.set_cons_zero, List.set_cons_succ, Nat.zero_add, Nat.reduceAdd] at hK ⊢
              go_simp
              exact hK _ wq Pq (Sub.refl _) hHq rfl
            · cases ho
              have h0 : u 0 = .int .i64 0 := hp ⟨0, .data⟩ (by simp) rfl
              simp only [frOf, Act.put, List.setIfInBounds_toArray, List.set_cons_zero, List.set_cons_succ, Nat.zero_add, Nat.reduceAdd] at hK ⊢
              simp only [h0] at hK ⊢
              go_simp
              exact hK _ wq Pq (Sub.refl _) hHq rfl
            · cases ho
              have h1 : u 1 = .bool true := hp ⟨1, .data⟩ (by simp) rfl
              simp only [frOf, Act.put, List.setIfInBounds_toArray, List.set_cons_zero, List.set_cons_succ, Nat.zero_add, Nat.reduceAdd] at hK ⊢
              simp only [h1] at hK ⊢
              go_simp
              exact hK _ wq Pq (Sub.refl _) hHq rfl
            · cases ho
              have h2 : u 2 = .bool true := hp ⟨2, .guard⟩ (by simp) rfl
              simp only [frOf, Act.put, List.setIfInBounds_toArray, List.set_cons_zero, List.set_cons_succ, Nat.zero_add, Nat.reduceAdd] at hK ⊢
              simp only [h2] at hK ⊢
              go_simp
              exact hK _ wq Pq (Sub.refl _) hHq rfl
            · cases ho
              have h3 : u 3 = .pointer (some ⟨W.heap.size, 0, none⟩) := hp ⟨3, .data⟩ (by simp) rfl
              have h2 : u 2 = .bool true := hp ⟨2, .guard⟩ (by simp) rfl
              simp only [frOf, Act.put, List.setIfInBounds_toArray, List.set_cons_zero, List.set_cons_succ, Nat.zero_add, Nat.reduceAdd] at hK ⊢
              simp only [h3, h2] at hK ⊢
              obtain ⟨k0, k1, k2⟩ := hHq.use (HBX4.out.sub hsq)
              go_simp
              exact hK _ wq Pq (Sub.refl _) hHq rfl
            · cases ho
              have h2 : u 2 = .bool true := hp ⟨2, .guard⟩ (by simp) rfl
              simp only [frOf, Act.put, List.setIfInBounds_toArray, List.set_cons_zero, List.set_cons_succ, Nat.zero_add, Nat.reduceAdd] at hK ⊢
              simp only [h2] at hK ⊢
              go_simp
              exact hK _ wq Pq (Sub.refl _) hHq rfl
            · cases ho
              have h5 : u 5 = ptr s := hp ⟨5, .data⟩ (by simp) rfl
              have h2 : u 2 = .bool true := hp ⟨2, .guard⟩ (by simp) rfl
              simp only [frOf, Act.put, List.setIfInBounds_toArray, List.set_cons_zero, List.set_cons_succ, Nat.zero_add, Nat.reduceAdd] at hK ⊢
              simp only [h5, h2] at hK ⊢
              go_simp
              with_reducible refine (end_any HG.out HO.out.W hHq).mono ?_
              rintro e w3 ⟨rfl, hH3⟩
              rw [HEN2.out]
              exact hK _ w3 Pq (Sub.refl _) hH3 rfl
            · cases ho
              have h4 : u 4 = .int .i64 x.b := hp ⟨4, .data⟩ (by simp) rfl
              have h6 : u 6 = .int .i64 en := hp ⟨6, .data⟩ (by simp) rfl
              have h2 : u 2 = .bool true := hp ⟨2, .guard⟩ (by simp) rfl
              simp only [frOf, Act.put, List.setIfInBounds_toArray, List.set_cons_zero, List.set_cons_succ, Nat.zero_add, Nat.reduceAdd] at hK ⊢
              simp only [h4, h6, h2] at hK ⊢
              go_simp
              exact hK _ wq Pq (Sub.refl _) hHq (by simp [HEQ.out])
            · cases ho
              have h7 : u 7 = .bool false := hp ⟨7, .data⟩ (by simp) rfl
              have h2 : u 2 = .bool true := hp ⟨2, .guard⟩ (by simp) rfl
              simp only [frOf, Act.put, List.setIfInBounds_toArray, List.set_cons_zero, List.set_cons_succ, Nat.zero_add, Nat.reduceAdd] at hK ⊢
              simp only [h7, h2] at hK ⊢
              go_simp
              exact hK _ wq Pq (Sub.refl _) hHq rfl
            · cases ho
              have h8 : u 8 = .bool false := hp ⟨8, .guard⟩ (by simp) rfl
              simp only [frOf, Act.put, List.setIfInBounds_toArray, List.set_cons_zero, List.set_cons_succ, Nat.zero_add, Nat.reduceAdd] at hK ⊢
              simp only [h8] at hK ⊢
              go_simp
              exact hK _ wq Pq (Sub.refl _) hHq rfl
            · cases ho
              have h9 : u 9 = .pointer (some ⟨W.heap.size, 1, none⟩) := hp ⟨9, .data⟩ (by simp) rfl
              have h8 : u 8 = .bool false := hp ⟨8, .guard⟩ (by simp) rfl
              simp only [frOf, Act.put, List.setIfInBounds_toArray, List.set_cons_zero, List.set_cons_succ, Nat.zero_add, Nat.reduceAdd] at hK ⊢
              simp only [h9, h8] at hK ⊢
              obtain ⟨k0, k1, k2⟩ := hHq.use (HBX4.out.sub hsq)
              go_simp
              exact hK _ wq Pq (Sub.refl _) hHq rfl
            · cases ho
              have h8 : u 8 = .bool false := hp ⟨8, .guard⟩ (by simp) rfl
              simp only [frOf, Act.put, List.setIfInBounds_toArray, List.set_cons_zero, List.set_cons_succ, Nat.zero_add, Nat.reduceAdd] at hK ⊢
              simp only [h8] at hK ⊢
              go_simp
              exact hK _ wq Pq (Sub.refl _) hHq rfl
            · cases ho
              have h10 : u 10 = .int .i64 x.e := hp ⟨10, .data⟩ (by simp) rfl
              have h11 : u 11 = .int .i64 0 := hp ⟨11, .data⟩ (by simp) rfl
              have h8 : u 8 = .bool false := hp ⟨8, .guard⟩ (by simp) rfl
              simp only [frOf, Act.put, List.setIfInBounds_toArray, List.set_cons_zero, List.set_cons_succ, Nat.zero_add, Nat.reduceAdd] at hK ⊢
              simp only [h10, h11, h8] at hK ⊢
              go_simp
              exact hK _ wq Pq (Sub.refl _) hHq (by simp [HGE.out])
            · cases ho
              have h8 : u 8 = .bool false := hp ⟨8, .data⟩ (by simp) rfl
              have h12 : u 12 = .bool false := hp ⟨12, .data⟩ (by simp) rfl
              have h2 : u 2 = .bool true := hp ⟨2, .guard⟩ (by simp) rfl
              simp only [frOf, Act.put, List.setIfInBounds_toArray, List.set_cons_zero, List.set_cons_succ, Nat.zero_add, Nat.reduceAdd] at hK ⊢
              simp only [h8, h12, h2] at hK ⊢
              go_simp
              exact hK _ wq Pq (Sub.refl _) hHq rfl
            · cases ho
              have h2 : u 2 = .bool true := hp ⟨2, .data⟩ (by simp) rfl
              have h13 : u 13 = .bool false := hp ⟨13, .data⟩ (by simp) rfl
              simp only [frOf, Act.put, List.setIfInBounds_toArray, List.set_cons_zero, List.set_cons_succ, Nat.zero_add, Nat.reduceAdd] at hK ⊢
              simp only [h2, h13] at hK ⊢
              go_simp
              exact hK _ wq Pq (Sub.refl _) hHq rfl
            · exact absurd ho (by simp)
          · intro u wq Pq hsq hHq hR
            have h14 : u 14 = .bool false := hR 14 (by decide)
            simp only [frOf, List.setIfInBounds_toArray, List.set_cons_zero, List.set_cons_succ, Nat.zero_add, Nat.reduceAdd]
            simp only [h14]
            have H5 := Lib.hid (hHq.weaken hsq)
            obtain ⟨k0, k1, k2⟩ := H5.out.use HBX4.out
            clear hR hHq hsq h14
            go_wp2_with fail
            refine (sappend_on (C.sub HS4.out) HG.out HO.out HD4.out x HXO.out HXB.out _ (HVP.out.sub HS4.out) HF.out HROOM.out H5.out).mono ?_
            rintro e w6 ⟨rfl, P6, A6, Ad6, D6, hs6, hG6, hD6, hO6, hsm6, hus6, hlk6, hH6⟩
            have HY := Lib.hid hH6
            have HSY := Lib.hid (HS4.out.trans hs6)
            have HGY := Lib.hid hG6
            have HOY := Lib.hid hO6
            have HDY := Lib.hid hD6
            obtain ⟨fz6, hfz6, -, -⟩ := hO6.f
            have HLZ := Lib.hid hfz6
            have HNZ : Hid (∀ s', s' ≠ segNm 0 → D6.look s' = none) := fun s' hs' => (hlk6 s' hs').trans (hlkn s' hs')
            have HQ1 : Hid (D6.n ≤ 10) := by have := hsm6.n; show _ ≤ _; omega
            have HQ2 : Hid (D6.nm.length ≤ 10) := by have := hsm6.nml; show _ ≤ _; omega
            have HQ3 : Hid (D6.ch.length ≤ 10) := by have := hsm6.ch; show _ ≤ _; omega
            have HQ4 := Lib.hid hO6.room
            have HQ5 := Lib.hid hO6.used
            have HIZ := Lib.hid hO6.I
            clear hH6 k0 k1 k2 hs6 hG6 hD6 hO6 hsm6 hus6 hlk6 hfz6
            have hEy := (C.errs.sub HSY.out) _ HY.out.agr
            rw [hS19] at hEy
            have HEY := Lib.hid hEy
            clear hEy
            go_wp2_with fail
            refine (sraw_on (C.sub HSY.out) HGY.out HOY.out HDY.out HY.out).mono ?_
            rintro e w8 ⟨v8, P8, rfl, hs8, hp8, hH8⟩
            obtain ⟨va8, vc8, rfl, -⟩ := (hH8.use hp8).shape
            obtain ⟨fl8, hfl8⟩ : ∃ f, (flatB (Sg.push ⟨d, segNm 0, 0, 100, L, 0⟩ x).l).length = f := ⟨_, rfl⟩
            rw [hfl8] at hp8 ⊢
            have H8 := Lib.hid hH8
            have HP8 := Lib.hid hp8
            have HS8 := Lib.hid hs8
            have HSZ := Lib.hid (HSY.out.trans hs8)
            have HDZ := Lib.hid (HDY.out.sub hs8)
            have hE8 := (C.errs.sub HSZ.out) _ hH8.agr
            rw [hS19] at hE8
            have HE8 := Lib.hid hE8
            have HFL8 := Lib.hid hfl8
            clear hH8 hp8 hs8 hE8 hfl8
            go_wp2_with fail

            rw [← ev_zero (errAt W)]
            refine (is_any HE8.out (0) (.inl rfl) 0).mono ?_
            rintro e w9 ⟨rfl, hb9⟩
            have HZ := Lib.hid (H8.out.below hb9 (Nat.le_refl _))
            clear hb9
            go_wp2_with fail

            rcases hcr with hbad | ⟨hb0, hev1, hev2⟩ | ⟨bn, hbn, hbn1, hbn2, hev1, hev2⟩
            · go_wp2_with fail
              refine (screate_bad (d := d) (C.sub HSZ.out) bz ez hbad HZ.out).mono ?_
              rintro e wc ⟨rfl, hHc⟩
              have hEc := (C.errs.sub HSZ.out) _ hHc.agr
              rw [hS19] at hEc
              have Hc := Lib.hid hHc
              have HEc := Lib.hid hEc
              clear hHc hEc

              have hq : bz < 0 ∨ (¬ bz < 0 ∧ 1099511627776 < bz) ∨ (¬ bz < 0 ∧ ¬ 1099511627776 < bz ∧ ez < 1) ∨ (¬ bz < 0 ∧ ¬ 1099511627776 < bz ∧ ¬ ez < 1 ∧ 1048576 < ez) := by omega
              clear hbad
              rcases hq with q1 | ⟨q1, q2⟩ | ⟨q1, q2, q3⟩ | ⟨q1, q2, q3, q4⟩
              · go_wp2_with fail
                rw [← ev_some (errAt W) 4]
                refine (is_any HEc.out (101 + 4) (.inr (by omega)) 105).mono ?_
                rintro e w20 ⟨rfl, hb20⟩
                have HB20 := Lib.hid ((Hc.out.below hb20 (Nat.le_refl _)).to_below (HST.out.trans HSZ.out))
                clear hb20
                go_wp2_with fail
                go_ret
                exact ⟨rfl, HB20.out⟩

              · go_wp2_with fail
                rw [← ev_some (errAt W) 4]
                refine (is_any HEc.out (101 + 4) (.inr (by omega)) 105).mono ?_
                rintro e w20 ⟨rfl, hb20⟩
                have HB20 := Lib.hid ((Hc.out.below hb20 (Nat.le_refl _)).to_below (HST.out.trans HSZ.out))
                clear hb20
                go_wp2_with fail
                go_ret
                exact ⟨rfl, HB20.out⟩

              · go_wp2_with fail
                rw [← ev_some (errAt W) 4]
                refine (is_any HEc.out (101 + 4) (.inr (by omega)) 105).mono ?_
                rintro e w20 ⟨rfl, hb20⟩
                have HB20 := Lib.hid ((Hc.out.below hb20 (Nat.le_refl _)).to_below (HST.out.trans HSZ.out))
                clear hb20
                go_wp2_with fail
                go_ret
                exact ⟨rfl, HB20.out⟩

              · go_wp2_with fail
                rw [← ev_some (errAt W) 4]
                refine (is_any HEc.out (101 + 4) (.inr (by omega)) 105).mono ?_
                rintro e w20 ⟨rfl, hb20⟩
                have HB20 := Lib.hid ((Hc.out.below hb20 (Nat.le_refl _)).to_below (HST.out.trans HSZ.out))
                clear hb20
                go_wp2_with fail
                go_ret
                exact ⟨rfl, HB20.out⟩

            · subst hb0
              obtain ⟨en2, rfl⟩ : ∃ n : Nat, ez = (n : Int) := ⟨ez.toNat, by omega⟩
              go_wp2_with fail
              refine (screate_there (C.sub HSZ.out) HDZ.out HIZ.out 0 (by decide) en2 (by omega) (by omega) fz6 HLZ.out (Hp.mid HZ.out)).mono ?_
              rintro e wc ⟨rfl, Ac, hHc⟩
              have hEc := (C.errs.sub HSZ.out) _ hHc.agr
              rw [hS19] at hEc
              have Hc := Lib.hid hHc
              have HEc := Lib.hid hEc
              clear hHc hEc

              go_wp2_with fail
              rw [← ev_some (errAt W) 7]
              refine (is_any HEc.out (101 + 7) (.inr (by omega)) 108).mono ?_
              rintro e w20 ⟨rfl, hb20⟩
              have HB20 := Lib.hid ((Hc.out.below hb20 (Nat.le_refl _)).to_below (HST.out.trans HSZ.out))
              clear hb20
              go_wp2_with fail
              go_ret
              exact ⟨rfl, HB20.out⟩

            · obtain ⟨en2, rfl⟩ : ∃ n : Nat, ez = (n : Int) := ⟨ez.toNat, by omega⟩
              subst hbn
              have hbn3 : ¬ bn = 0 := by omega
              go_wp2_with fail
              refine (screate_on (C.sub HSZ.out) HDZ.out HIZ.out bn (by omega) en2 (by omega) (by omega) (HNZ.out _ (fun e => hbn3 (segNm_inj bn 0 (by omega) (by omega) e))) (by have := HQ1.out; omega) (by have := HQ2.out; omega) (by have := HQ3.out; omega) HQ4.out HQ5.out (Hp.mid HZ.out)).mono ?_
              rintro e wc ⟨sc, Asc, Adc, Dc, rfl, hGc, -, hOc, -, -, -, -, -, -, hHc⟩
              have Hc := Lib.hid hHc
              have HGc := Lib.hid hGc
              have HOc := Lib.hid hOc
              have HEc : Hid (Sg.end_ ⟨d, segNm bn, bn, en2, [], 0⟩ = (bn : Int)) := rfl
              clear hHc hGc hOc
              go_wp2_with fail
              refine (end_any HGc.out HOc.out.W Hc.out).mono ?_
              rintro e w20 ⟨rfl, hH20⟩
              rw [HEc.out]
              have HB20 := Lib.hid (hH20.to_below (HST.out.trans HSZ.out))
              clear hH20
              go_wp2_with fail
              go_ret
              exact ⟨by simp [hbn3], HB20.out⟩

      · have HNE := Lib.hid hbe
        have HNF : Hid (Sg.foll ⟨d, segNm 0, 0, 100, L, 0⟩ x = false) := by
          show Sg.foll _ x = false
          unfold Sg.foll
          rw [end_eq, lastE_eq]
          show (decide (x.b = endOf ((0 : Nat) : Int) L) && decide (epOf 0 L ≤ x.e)) = false
          rw [HEN.out]
          simp [hbe]
        go_wp2_with fail
        refine wp_region_hp (by kernel_rfl) (by decide) _ _ H4.out (fun i _ v => match i with | 0 => v = .int .i64 0 | 1 => v = .bool true | 2 => v = .bool true | 3 => v = .pointer (some ⟨W.heap.size, 0, none⟩) | 4 => v = .int .i64 x.b | 5 => v = ptr s | 6 => v = .int .i64 en | 7 => v = .bool true | 8 => v = .bool true | 9 => v = undef | 10 => v = undef | 11 => v = undef | 12 => v = undef | 13 => v = .bool true | 14 => v = .bool true | _ => True) (by intro i P P' v _ h; exact h) ?_ ?_
        · intro i o ho u wq Pq hsq hHq hp K hK
          rcases i with _ | _ | _ | _ | _ | _ | _ | _ | _ | _ | _ | _ | _ | _ | _ | i
          · cases ho
            simp only [frOf, Act.put, List.setIfInBounds_toArray, List.set_cons_zero, List.set_cons_succ, Nat.zero_add, Nat.reduceAdd] at hK ⊢
            go_simp
            exact hK _ wq Pq (Sub.refl _) hHq rfl
          · cases ho
            have h0 : u 0 = .int .i64 0 := hp ⟨0, .data⟩ (by simp) rfl
            simp only [frOf, Act.put, List.setIfInBounds_toArray, List.set_cons_zero, List.set_cons_succ, Nat.zero_add, Nat.reduceAdd] at hK ⊢
            simp only [h0] at hK ⊢
            go_simp
            exact hK _ wq Pq (Sub.refl _) hHq rfl
          · cases ho
            have h1 : u 1 = .bool true := hp ⟨1, .data⟩ (by simp) rfl
            simp only [frOf, Act.put, List.setIfInBounds_toArray, List.set_cons_zero, List.set_cons_succ, Nat.zero_add, Nat.reduceAdd] at hK ⊢
            simp only [h1] at hK ⊢
            go_simp
            exact hK _ wq Pq (Sub.refl _) hHq rfl
          · cases ho
            have h2 : u 2 = .bool true := hp ⟨2, .guard⟩ (by simp) rfl
            simp only [frOf, Act.put, List.setIfInBounds_toArray, List.set_cons_zero, List.set_cons_succ, Nat.zero_add, Nat.reduceAdd] at hK ⊢
            simp only [h2] at hK ⊢
            go_simp
            exact hK _ wq Pq (Sub.refl _) hHq rfl
          · cases ho
            have h3 : u 3 = .pointer (some ⟨W.heap.size, 0, none⟩) := hp ⟨3, .data⟩ (by simp) rfl
            have h2 : u 2 = .bool true := hp ⟨2, .guard⟩ (by simp) rfl
            simp only [frOf, Act.put, List.setIfInBounds_toArray, List.set_cons_zero, List.set_cons_succ, Nat.zero_add, Nat.reduceAdd] at hK ⊢
            simp only [h3, h2] at hK ⊢
            obtain ⟨k0, k1, k2⟩ := hHq.use (HBX4.out.sub hsq)
            go_simp
            exact hK _ wq Pq (Sub.refl _) hHq rfl
          · cases ho
            have h2 : u 2 = .bool true := hp ⟨2, .guard⟩ (by simp) rfl
            simp only [frOf, Act.put, List.setIfInBounds_toArray, List.set_cons_zero, List.set_cons_succ, Nat.zero_add, Nat.reduceAdd] at hK ⊢
            simp only [h2] at hK ⊢
            go_simp
            exact hK _ wq Pq (Sub.refl _) hHq rfl
          · cases ho
            have h5 : u 5 = ptr s := hp ⟨5, .data⟩ (by simp) rfl
            have h2 : u 2 = .bool true := hp ⟨2, .guard⟩ (by simp) rfl
            simp only [frOf, Act.put, List.setIfInBounds_toArray, List.set_cons_zero, List.set_cons_succ, Nat.zero_add, Nat.reduceAdd] at hK ⊢
            simp only [h5, h2] at hK ⊢
            go_simp
            with_reducible refine (end_any HG.out HO.out.W hHq).mono ?_
            rintro e w3 ⟨rfl, hH3⟩
            rw [HEN2.out]
            exact hK _ w3 Pq (Sub.refl _) hH3 rfl
          · cases ho
            have h4 : u 4 = .int .i64 x.b := hp ⟨4, .data⟩ (by simp) rfl
            have h6 : u 6 = .int .i64 en := hp ⟨6, .data⟩ (by simp) rfl
            have h2 : u 2 = .bool true := hp ⟨2, .guard⟩ (by simp) rfl
            simp only [frOf, Act.put, List.setIfInBounds_toArray, List.set_cons_zero, List.set_cons_succ, Nat.zero_add, Nat.reduceAdd] at hK ⊢
            simp only [h4, h6, h2] at hK ⊢
            go_simp
            exact hK _ wq Pq (Sub.refl _) hHq (by simp [HNE.out])
          · cases ho
            have h7 : u 7 = .bool true := hp ⟨7, .data⟩ (by simp) rfl
            have h2 : u 2 = .bool true := hp ⟨2, .guard⟩ (by simp) rfl
            simp only [frOf, Act.put, List.setIfInBounds_toArray, List.set_cons_zero, List.set_cons_succ, Nat.zero_add, Nat.reduceAdd] at hK ⊢
            simp only [h7, h2] at hK ⊢
            go_simp
            exact hK _ wq Pq (Sub.refl _) hHq rfl
          · cases ho
            have h8 : u 8 = .bool true := hp ⟨8, .guard⟩ (by simp) rfl
            simp only [frOf, Act.put, List.setIfInBounds_toArray, List.set_cons_zero, List.set_cons_succ, Nat.zero_add, Nat.reduceAdd] at hK ⊢
            simp only [h8]
            first | exact trivial | (go_simp; done) | (rw [if_neg (by decide)]; trivial) | (rw [if_neg (Bool.not_eq_true _ ▸ (by kernel_rfl))]; trivial)
          · cases ho
            have h9 : u 9 = undef := hp ⟨9, .data⟩ (by simp) rfl
            have h8 : u 8 = .bool true := hp ⟨8, .guard⟩ (by simp) rfl
            simp only [frOf, Act.put, List.setIfInBounds_toArray, List.set_cons_zero, List.set_cons_succ, Nat.zero_add, Nat.reduceAdd] at hK ⊢
            simp only [h9, h8]
            first | exact trivial | (go_simp; done) | (rw [if_neg (by decide)]; trivial) | (rw [if_neg (Bool.not_eq_true _ ▸ (by kernel_rfl))]; trivial)
          · cases ho
            have h8 : u 8 = .bool true := hp ⟨8, .guard⟩ (by simp) rfl
            simp only [frOf, Act.put, List.setIfInBounds_toArray, List.set_cons_zero, List.set_cons_succ, Nat.zero_add, Nat.reduceAdd] at hK ⊢
            simp only [h8]
            first | exact trivial | (go_simp; done) | (rw [if_neg (by decide)]; trivial) | (rw [if_neg (Bool.not_eq_true _ ▸ (by kernel_rfl))]; trivial)
          · cases ho
            have h10 : u 10 = undef := hp ⟨10, .data⟩ (by simp) rfl
            have h11 : u 11 = undef := hp ⟨11, .data⟩ (by simp) rfl
            have h8 : u 8 = .bool true := hp ⟨8, .guard⟩ (by simp) rfl
            simp only [frOf, Act.put, List.setIfInBounds_toArray, List.set_cons_zero, List.set_cons_succ, Nat.zero_add, Nat.reduceAdd] at hK ⊢
            simp only [h10, h11, h8]
            first | exact trivial | (go_simp; done) | (rw [if_neg (by decide)]; trivial) | (rw [if_neg (Bool.not_eq_true _ ▸ (by kernel_rfl))]; trivial)
          · cases ho
            have h8 : u 8 = .bool true := hp ⟨8, .data⟩ (by simp) rfl
            have h12 : u 12 = undef := hp ⟨12, .data⟩ (by simp) rfl
            have h2 : u 2 = .bool true := hp ⟨2, .guard⟩ (by simp) rfl
            simp only [frOf, Act.put, List.setIfInBounds_toArray, List.set_cons_zero, List.set_cons_succ, Nat.zero_add, Nat.reduceAdd] at hK ⊢
            simp only [h8, h12, h2] at hK ⊢
            go_simp
            exact hK _ wq Pq (Sub.refl _) hHq rfl
          · cases ho
            have h2 : u 2 = .bool true := hp ⟨2, .data⟩ (by simp) rfl
            have h13 : u 13 = .bool true := hp ⟨13, .data⟩ (by simp) rfl
            simp only [frOf, Act.put, List.setIfInBounds_toArray, List.set_cons_zero, List.set_cons_succ, Nat.zero_add, Nat.reduceAdd] at hK ⊢
            simp only [h2, h13] at hK ⊢
            go_simp
            exact hK _ wq Pq (Sub.refl _) hHq rfl
          · exact absurd ho (by simp)
        · intro u wq Pq hsq hHq hR
          have h14 : u 14 = .bool true := hR 14 (by decide)
          simp only [frOf, List.setIfInBounds_toArray, List.set_cons_zero, List.set_cons_succ, Nat.zero_add, Nat.reduceAdd]
          simp only [h14]
          have H5 := Lib.hid (hHq.weaken hsq)
          obtain ⟨k0, k1, k2⟩ := H5.out.use HBX4.out
          clear hR hHq hsq h14
          go_wp2_with fail
          refine (sappend_shape (C.sub HS4.out) HG.out HO.out x HXO.out HXB.out _ (HVP.out.sub HS4.out) HNF.out H5.out).mono ?_
          rintro e w6 ⟨rfl, P6, hs6, hH6⟩
          have HY := Lib.hid hH6
          have HSY := Lib.hid (HS4.out.trans hs6)
          have HS6 := Lib.hid hs6
          have HGY := HG
          have HOY := HO
          have HDY := Lib.hid (HD4.out.sub hs6)
          clear hH6 k0 k1 k2 hs6
          have hEy := (C.errs.sub HSY.out) _ HY.out.agr
          rw [hS19] at hEy
          have HEY := Lib.hid hEy
          clear hEy
          go_wp2_with fail
          refine (sraw_on (C.sub HSY.out) HGY.out HOY.out HDY.out HY.out).mono ?_
          rintro e w8 ⟨v8, P8, rfl, hs8, hp8, hH8⟩
          obtain ⟨va8, vc8, rfl, -⟩ := (hH8.use hp8).shape
          obtain ⟨fl8, hfl8⟩ : ∃ f, (flatB (⟨d, segNm 0, 0, 100, L, 0⟩ : Sg).l).length = f := ⟨_, rfl⟩
          rw [hfl8] at hp8 ⊢
          have H8 := Lib.hid hH8
          have HP8 := Lib.hid hp8
          have HS8 := Lib.hid hs8
          have HSZ := Lib.hid (HSY.out.trans hs8)
          have HDZ := Lib.hid (HDY.out.sub hs8)
          have hE8 := (C.errs.sub HSZ.out) _ hH8.agr
          rw [hS19] at hE8
          have HE8 := Lib.hid hE8
          have HFL8 := Lib.hid hfl8
          clear hH8 hp8 hs8 hE8 hfl8
          go_wp2_with fail

          have HS48 := Lib.hid (HS6.out.trans HS8.out)
          rw [← ev_some (errAt W) 2]
          refine (is_any HE8.out (101 + 2) (.inr (by omega)) 103).mono ?_
          rintro e w9 ⟨rfl, hb9⟩
          have H9 := Lib.hid (H8.out.below hb9 (Nat.le_refl _))
          clear hb9
          go_wp2_with fail

          refine (samebytes_ok _ _ (flatB L) _ (H9.out.use (HP4.out.sub HS48.out)) (H9.out.use HP8.out) (by rw [HFL.out]; omega)).mono ?_
          rintro e w10 ⟨rfl, hb10⟩
          have HZ := Lib.hid (H9.out.below hb10 (Nat.le_refl _))
          clear hb10
          have HIZ := Lib.hid HO.out.I
          have HLZ := Lib.hid hlk0
          have HNZ := Lib.hid hlkn
          have HQ1 := Lib.hid hq1
          have HQ2 := Lib.hid hq2
          have HQ3 := Lib.hid hq3
          have HQ4 := Lib.hid HO.out.room
          have HQ5 := Lib.hid HO.out.used

          go_wp2_with fail
          rcases hcr with hbad | ⟨hb0, hev1, hev2⟩ | ⟨bn, hbn, hbn1, hbn2, hev1, hev2⟩
          · go_wp2_with fail
            refine (screate_bad (d := d) (C.sub HSZ.out) bz ez hbad HZ.out).mono ?_
            rintro e wc ⟨rfl, hHc⟩
            have hEc := (C.errs.sub HSZ.out) _ hHc.agr
            rw [hS19] at hEc
            have Hc := Lib.hid hHc
            have HEc := Lib.hid hEc
            clear hHc hEc

            have hq : bz < 0 ∨ (¬ bz < 0 ∧ 1099511627776 < bz) ∨ (¬ bz < 0 ∧ ¬ 1099511627776 < bz ∧ ez < 1) ∨ (¬ bz < 0 ∧ ¬ 1099511627776 < bz ∧ ¬ ez < 1 ∧ 1048576 < ez) := by omega
            clear hbad
            rcases hq with q1 | ⟨q1, q2⟩ | ⟨q1, q2, q3⟩ | ⟨q1, q2, q3, q4⟩
            · go_wp2_with fail
              rw [← ev_some (errAt W) 4]
              refine (is_any HEc.out (101 + 4) (.inr (by omega)) 105).mono ?_
              rintro e w20 ⟨rfl, hb20⟩
              have HB20 := Lib.hid ((Hc.out.below hb20 (Nat.le_refl _)).to_below (HST.out.trans HSZ.out))
              clear hb20
              go_wp2_with fail
              go_ret
              exact ⟨rfl, HB20.out⟩

            · go_wp2_with fail
              rw [← ev_some (errAt W) 4]
              refine (is_any HEc.out (101 + 4) (.inr (by omega)) 105).mono ?_
              rintro e w20 ⟨rfl, hb20⟩
              have HB20 := Lib.hid ((Hc.out.below hb20 (Nat.le_refl _)).to_below (HST.out.trans HSZ.out))
              clear hb20
              go_wp2_with fail
              go_ret
              exact ⟨rfl, HB20.out⟩

            · go_wp2_with fail
              rw [← ev_some (errAt W) 4]
              refine (is_any HEc.out (101 + 4) (.inr (by omega)) 105).mono ?_
              rintro e w20 ⟨rfl, hb20⟩
              have HB20 := Lib.hid ((Hc.out.below hb20 (Nat.le_refl _)).to_below (HST.out.trans HSZ.out))
              clear hb20
              go_wp2_with fail
              go_ret
              exact ⟨rfl, HB20.out⟩

            · go_wp2_with fail
              rw [← ev_some (errAt W) 4]
              refine (is_any HEc.out (101 + 4) (.inr (by omega)) 105).mono ?_
              rintro e w20 ⟨rfl, hb20⟩
              have HB20 := Lib.hid ((Hc.out.below hb20 (Nat.le_refl _)).to_below (HST.out.trans HSZ.out))
              clear hb20
              go_wp2_with fail
              go_ret
              exact ⟨rfl, HB20.out⟩

          · subst hb0
            obtain ⟨en2, rfl⟩ : ∃ n : Nat, ez = (n : Int) := ⟨ez.toNat, by omega⟩
            go_wp2_with fail
            refine (screate_there (C.sub HSZ.out) HDZ.out HIZ.out 0 (by decide) en2 (by omega) (by omega) fz HLZ.out (Hp.mid HZ.out)).mono ?_
            rintro e wc ⟨rfl, Ac, hHc⟩
            have hEc := (C.errs.sub HSZ.out) _ hHc.agr
            rw [hS19] at hEc
            have Hc := Lib.hid hHc
            have HEc := Lib.hid hEc
            clear hHc hEc

            go_wp2_with fail
            rw [← ev_some (errAt W) 7]
            refine (is_any HEc.out (101 + 7) (.inr (by omega)) 108).mono ?_
            rintro e w20 ⟨rfl, hb20⟩
            have HB20 := Lib.hid ((Hc.out.below hb20 (Nat.le_refl _)).to_below (HST.out.trans HSZ.out))
            clear hb20
            go_wp2_with fail
            go_ret
            exact ⟨rfl, HB20.out⟩

          · obtain ⟨en2, rfl⟩ : ∃ n : Nat, ez = (n : Int) := ⟨ez.toNat, by omega⟩
            subst hbn
            have hbn3 : ¬ bn = 0 := by omega
            go_wp2_with fail
            refine (screate_on (C.sub HSZ.out) HDZ.out HIZ.out bn (by omega) en2 (by omega) (by omega) (HNZ.out _ (fun e => hbn3 (segNm_inj bn 0 (by omega) (by omega) e))) (by have := HQ1.out; omega) (by have := HQ2.out; omega) (by have := HQ3.out; omega) HQ4.out HQ5.out (Hp.mid HZ.out)).mono ?_
            rintro e wc ⟨sc, Asc, Adc, Dc, rfl, hGc, -, hOc, -, -, -, -, -, -, hHc⟩
            have Hc := Lib.hid hHc
            have HGc := Lib.hid hGc
            have HOc := Lib.hid hOc
            have HEc : Hid (Sg.end_ ⟨d, segNm bn, bn, en2, [], 0⟩ = (bn : Int)) := rfl
            clear hHc hGc hOc
            go_wp2_with fail
            refine (end_any HGc.out HOc.out.W Hc.out).mono ?_
            rintro e w20 ⟨rfl, hH20⟩
            rw [HEc.out]
            have HB20 := Lib.hid (hH20.to_below (HST.out.trans HSZ.out))
            clear hH20
            go_wp2_with fail
            go_ret
            exact ⟨by simp [hbn3], HB20.out⟩

    · skip
      have HC0 : Hid (((c : Int) == 0) = false) := beq_eq_false_iff_ne.2 (by omega)
      have hcne : (c : Int) ≠ 0 := by omega
      go_wp2_with fail
      refine wp_region_hp (by kernel_rfl) (by decide) _ _ H4.out (fun i _ v => match i with | 0 => v = .int .i64 c | 1 => v = .bool false | 2 => v = .bool false | 3 => v = undef | 4 => v = undef | 5 => v = undef | 6 => v = undef | 7 => v = undef | 8 => v = undef | 9 => v = undef | 10 => v = undef | 11 => v = undef | 12 => v = undef | 13 => v = undef | 14 => v = .bool false | _ => True) (by intro i P P' v _ h; exact h) ?_ ?_
      · intro i o ho u wq Pq hsq hHq hp K hK
        rcases i with _ | _ | _ | _ | _ | _ | _ | _ | _ | _ | _ | _ | _ | _ | _ | i
        · cases ho
          simp only [frOf, Act.put, List.setIfInBounds_toArray, List.set_cons_zero, List.set_cons_succ, Nat.zero_add, Nat.reduceAdd] at hK ⊢
          go_simp
          exact hK _ wq Pq (Sub.refl _) hHq rfl
        · cases ho
          have h0 : u 0 = .int .i64 c := hp ⟨0, .data⟩ (by simp) rfl
          simp only [frOf, Act.put, List.setIfInBounds_toArray, List.set_cons_zero, List.set_cons_succ, Nat.zero_add, Nat.reduceAdd] at hK ⊢
          simp only [h0] at hK ⊢
          go_simp
          exact hK _ wq Pq (Sub.refl _) hHq (by simp [HC0.out])
        · cases ho
          have h1 : u 1 = .bool false := hp ⟨1, .data⟩ (by simp) rfl
          simp only [frOf, Act.put, List.setIfInBounds_toArray, List.set_cons_zero, List.set_cons_succ, Nat.zero_add, Nat.reduceAdd] at hK ⊢
          simp only [h1] at hK ⊢
          go_simp
          exact hK _ wq Pq (Sub.refl _) hHq rfl
        · cases ho
          have h2 : u 2 = .bool false := hp ⟨2, .guard⟩ (by simp) rfl
          simp only [frOf, Act.put, List.setIfInBounds_toArray, List.set_cons_zero, List.set_cons_succ, Nat.zero_add, Nat.reduceAdd] at hK ⊢
          simp only [h2]
          first | exact trivial | (go_simp; done) | (rw [if_neg (by decide)]; trivial) | (rw [if_neg (Bool.not_eq_true _ ▸ (by kernel_rfl))]; trivial)
        · cases ho
          have h3 : u 3 = undef := hp ⟨3, .data⟩ (by simp) rfl
          have h2 : u 2 = .bool false := hp ⟨2, .guard⟩ (by simp) rfl
          simp only [frOf, Act.put, List.setIfInBounds_toArray, List.set_cons_zero, List.set_cons_succ, Nat.zero_add, Nat.reduceAdd] at hK ⊢
          simp only [h3, h2]
          first | exact trivial | (go_simp; done) | (rw [if_neg (by decide)]; trivial) | (rw [if_neg (Bool.not_eq_true _ ▸ (by kernel_rfl))]; trivial)
        · cases ho
          have h2 : u 2 = .bool false := hp ⟨2, .guard⟩ (by simp) rfl
          simp only [frOf, Act.put, List.setIfInBounds_toArray, List.set_cons_zero, List.set_cons_succ, Nat.zero_add, Nat.reduceAdd] at hK ⊢
          simp only [h2]
          first | exact trivial | (go_simp; done) | (rw [if_neg (by decide)]; trivial) | (rw [if_neg (Bool.not_eq_true _ ▸ (by kernel_rfl))]; trivial)
        · cases ho
          have h5 : u 5 = undef := hp ⟨5, .data⟩ (by simp) rfl
          have h2 : u 2 = .bool false := hp ⟨2, .guard⟩ (by simp) rfl
          simp only [frOf, Act.put, List.setIfInBounds_toArray, List.set_cons_zero, List.set_cons_succ, Nat.zero_add, Nat.reduceAdd] at hK ⊢
          simp only [h5, h2]
          first | exact trivial | (go_simp; done) | (rw [if_neg (by decide)]; trivial) | (rw [if_neg (Bool.not_eq_true _ ▸ (by kernel_rfl))]; trivial)
        · cases ho
          have h4 : u 4 = undef := hp ⟨4, .data⟩ (by simp) rfl
          have h6 : u 6 = undef := hp ⟨6, .data⟩ (by simp) rfl
          have h2 : u 2 = .bool false := hp ⟨2, .guard⟩ (by simp) rfl
          simp only [frOf, Act.put, List.setIfInBounds_toArray, List.set_cons_zero, List.set_cons_succ, Nat.zero_add, Nat.reduceAdd] at hK ⊢
          simp only [h4, h6, h2]
          first | exact trivial | (go_simp; done) | (rw [if_neg (by decide)]; trivial) | (rw [if_neg (Bool.not_eq_true _ ▸ (by kernel_rfl))]; trivial)
        · cases ho
          have h7 : u 7 = undef := hp ⟨7, .data⟩ (by simp) rfl
          have h2 : u 2 = .bool false := hp ⟨2, .guard⟩ (by simp) rfl
          simp only [frOf, Act.put, List.setIfInBounds_toArray, List.set_cons_zero, List.set_cons_succ, Nat.zero_add, Nat.reduceAdd] at hK ⊢
          simp only [h7, h2]
          first | exact trivial | (go_simp; done) | (rw [if_neg (by decide)]; trivial) | (rw [if_neg (Bool.not_eq_true _ ▸ (by kernel_rfl))]; trivial)
        · cases ho
          have h8 : u 8 = undef := hp ⟨8, .guard⟩ (by simp) rfl
          simp only [frOf, Act.put, List.setIfInBounds_toArray, List.set_cons_zero, List.set_cons_succ, Nat.zero_add, Nat.reduceAdd] at hK ⊢
          simp only [h8]
          first | exact trivial | (go_simp; done) | (rw [if_neg (by decide)]; trivial) | (rw [if_neg (Bool.not_eq_true _ ▸ (by kernel_rfl))]; trivial)
        · cases ho
          have h9 : u 9 = undef := hp ⟨9, .data⟩ (by simp) rfl
          have h8 : u 8 = undef := hp ⟨8, .guard⟩ (by simp) rfl
          simp only [frOf, Act.put, List.setIfInBounds_toArray, List.set_cons_zero, List.set_cons_succ, Nat.zero_add, Nat.reduceAdd] at hK ⊢
          simp only [h9, h8]
          first | exact trivial | (go_simp; done) | (rw [if_neg (by decide)]; trivial) | (rw [if_neg (Bool.not_eq_true _ ▸ (by kernel_rfl))]; trivial)
        · cases ho
          have h8 : u 8 = undef := hp ⟨8, .guard⟩ (by simp) rfl
          simp only [frOf, Act.put, List.setIfInBounds_toArray, List.set_cons_zero, List.set_cons_succ, Nat.zero_add, Nat.reduceAdd] at hK ⊢
          simp only [h8]
          first | exact trivial | (go_simp; done) | (rw [if_neg (by decide)]; trivial) | (rw [if_neg (Bool.not_eq_true _ ▸ (by kernel_rfl))]; trivial)
        · cases ho
          have h10 : u 10 = undef := hp ⟨10, .data⟩ (by simp) rfl
          have h11 : u 11 = undef := hp ⟨11, .data⟩ (by simp) rfl
          have h8 : u 8 = undef := hp ⟨8, .guard⟩ (by simp) rfl
          simp only [frOf, Act.put, List.setIfInBounds_toArray, List.set_cons_zero, List.set_cons_succ, Nat.zero_add, Nat.reduceAdd] at hK ⊢
          simp only [h10, h11, h8]
          first | exact trivial | (go_simp; done) | (rw [if_neg (by decide)]; trivial) | (rw [if_neg (Bool.not_eq_true _ ▸ (by kernel_rfl))]; trivial)
        · cases ho
          have h8 : u 8 = undef := hp ⟨8, .data⟩ (by simp) rfl
          have h12 : u 12 = undef := hp ⟨12, .data⟩ (by simp) rfl
          have h2 : u 2 = .bool false := hp ⟨2, .guard⟩ (by simp) rfl
          simp only [frOf, Act.put, List.setIfInBounds_toArray, List.set_cons_zero, List.set_cons_succ, Nat.zero_add, Nat.reduceAdd] at hK ⊢
          simp only [h8, h12, h2]
          first | exact trivial | (go_simp; done) | (rw [if_neg (by decide)]; trivial) | (rw [if_neg (Bool.not_eq_true _ ▸ (by kernel_rfl))]; trivial)
        · cases ho
          have h2 : u 2 = .bool false := hp ⟨2, .data⟩ (by simp) rfl
          have h13 : u 13 = undef := hp ⟨13, .data⟩ (by simp) rfl
          simp only [frOf, Act.put, List.setIfInBounds_toArray, List.set_cons_zero, List.set_cons_succ, Nat.zero_add, Nat.reduceAdd] at hK ⊢
          simp only [h2, h13] at hK ⊢
          go_simp
          exact hK _ wq Pq (Sub.refl _) hHq rfl
        · exact absurd ho (by simp)
      · intro u wq Pq hsq hHq hR
        have h14 : u 14 = .bool false := hR 14 (by decide)
        simp only [frOf, List.setIfInBounds_toArray, List.set_cons_zero, List.set_cons_succ, Nat.zero_add, Nat.reduceAdd]
        simp only [h14]
        have H5 := Lib.hid (hHq.weaken hsq)
        obtain ⟨k0, k1, k2⟩ := H5.out.use HBX4.out
        clear hR hHq hsq h14
        go_wp2_with fail
        refine (sappend_invalid (C.sub HS4.out) x (by omega) (by rw [HC.out]; exact hc0) _ (HVP.out.sub HS4.out) H5.out).mono ?_
        rintro e w6 ⟨rfl, hH6⟩
        rw [HC.out]
        have HY := Lib.hid hH6
        have HSY := HS4
        have HGY := HG
        have HOY := HO
        have HDY := HD4
        obtain ⟨ec, hec⟩ : ∃ v, ev (errAt W) c = v := ⟨_, rfl⟩
        rw [hec]
        have HEC := Lib.hid hec
        clear hH6 k0 k1 k2 hec
        have hEy := (C.errs.sub HSY.out) _ HY.out.agr
        rw [hS19] at hEy
        have HEY := Lib.hid hEy
        clear hEy
        go_wp2_with fail
        refine (sraw_on (C.sub HSY.out) HGY.out HOY.out HDY.out HY.out).mono ?_
        rintro e w8 ⟨v8, P8, rfl, hs8, hp8, hH8⟩
        obtain ⟨va8, vc8, rfl, -⟩ := (hH8.use hp8).shape
        obtain ⟨fl8, hfl8⟩ : ∃ f, (flatB (⟨d, segNm 0, 0, 100, L, 0⟩ : Sg).l).length = f := ⟨_, rfl⟩
        rw [hfl8] at hp8 ⊢
        have H8 := Lib.hid hH8
        have HP8 := Lib.hid hp8
        have HS8 := Lib.hid hs8
        have HSZ := Lib.hid (HSY.out.trans hs8)
        have HDZ := Lib.hid (HDY.out.sub hs8)
        have hE8 := (C.errs.sub HSZ.out) _ hH8.agr
        rw [hS19] at hE8
        have HE8 := Lib.hid hE8
        have HFL8 := Lib.hid hfl8
        clear hH8 hp8 hs8 hE8 hfl8
        go_wp2_with fail

        have HS48 := HS8
        rw [← HEC.out]
        refine (is_any HE8.out (c) (HCR.out) (c : Int)).mono ?_
        rintro e w9 ⟨rfl, hb9⟩
        have H9 := Lib.hid (H8.out.below hb9 (Nat.le_refl _))
        clear hb9
        go_wp2_with fail

        refine (samebytes_ok _ _ (flatB L) _ (H9.out.use (HP4.out.sub HS48.out)) (H9.out.use HP8.out) (by rw [HFL.out]; omega)).mono ?_
        rintro e w10 ⟨rfl, hb10⟩
        have HZ := Lib.hid (H9.out.below hb10 (Nat.le_refl _))
        clear hb10
        have HIZ := Lib.hid HO.out.I
        have HLZ := Lib.hid hlk0
        have HNZ := Lib.hid hlkn
        have HQ1 := Lib.hid hq1
        have HQ2 := Lib.hid hq2
        have HQ3 := Lib.hid hq3
        have HQ4 := Lib.hid HO.out.room
        have HQ5 := Lib.hid HO.out.used

        go_wp2_with fail
        rcases hcr with hbad | ⟨hb0, hev1, hev2⟩ | ⟨bn, hbn, hbn1, hbn2, hev1, hev2⟩
        · go_wp2_with fail
          refine (screate_bad (d := d) (C.sub HSZ.out) bz ez hbad HZ.out).mono ?_
          rintro e wc ⟨rfl, hHc⟩
          have hEc := (C.errs.sub HSZ.out) _ hHc.agr
          rw [hS19] at hEc
          have Hc := Lib.hid hHc
          have HEc := Lib.hid hEc
          clear hHc hEc

          have hq : bz < 0 ∨ (¬ bz < 0 ∧ 1099511627776 < bz) ∨ (¬ bz < 0 ∧ ¬ 1099511627776 < bz ∧ ez < 1) ∨ (¬ bz < 0 ∧ ¬ 1099511627776 < bz ∧ ¬ ez < 1 ∧ 1048576 < ez) := by omega
          clear hbad
          rcases hq with q1 | ⟨q1, q2⟩ | ⟨q1, q2, q3⟩ | ⟨q1, q2, q3, q4⟩
          · go_wp2_with fail
            rw [← ev_some (errAt W) 4]
            refine (is_any HEc.out (101 + 4) (.inr (by omega)) 105).mono ?_
            rintro e w20 ⟨rfl, hb20⟩
            have HB20 := Lib.hid ((Hc.out.below hb20 (Nat.le_refl _)).to_below (HST.out.trans HSZ.out))
            clear hb20
            go_wp2_with fail
            go_ret
            exact ⟨rfl, HB20.out⟩

          · go_wp2_with fail
            rw [← ev_some (errAt W) 4]
            refine (is_any HEc.out (101 + 4) (.inr (by omega)) 105).mono ?_
            rintro e w20 ⟨rfl, hb20⟩
            have HB20 := Lib.hid ((Hc.out.below hb20 (Nat.le_refl _)).to_below (HST.out.trans HSZ.out))
            clear hb20
            go_wp2_with fail
            go_ret
            exact ⟨rfl, HB20.out⟩

          · go_wp2_with fail
            rw [← ev_some (errAt W) 4]
            refine (is_any HEc.out (101 + 4) (.inr (by omega)) 105).mono ?_
            rintro e w20 ⟨rfl, hb20⟩
            have HB20 := Lib.hid ((Hc.out.below hb20 (Nat.le_refl _)).to_below (HST.out.trans HSZ.out))
            clear hb20
            go_wp2_with fail
            go_ret
            exact ⟨rfl, HB20.out⟩

          · go_wp2_with fail
            rw [← ev_some (errAt W) 4]
            refine (is_any HEc.out (101 + 4) (.inr (by omega)) 105).mono ?_
            rintro e w20 ⟨rfl, hb20⟩
            have HB20 := Lib.hid ((Hc.out.below hb20 (Nat.le_refl _)).to_below (HST.out.trans HSZ.out))
            clear hb20
            go_wp2_with fail
            go_ret
            exact ⟨rfl, HB20.out⟩

        · subst hb0
          obtain ⟨en2, rfl⟩ : ∃ n : Nat, ez = (n : Int) := ⟨ez.toNat, by omega⟩
          go_wp2_with fail
          refine (screate_there (C.sub HSZ.out) HDZ.out HIZ.out 0 (by decide) en2 (by omega) (by omega) fz HLZ.out (Hp.mid HZ.out)).mono ?_
          rintro e wc ⟨rfl, Ac, hHc⟩
          have hEc := (C.errs.sub HSZ.out) _ hHc.agr
          rw [hS19] at hEc
          have Hc := Lib.hid hHc
          have HEc := Lib.hid hEc
          clear hHc hEc

          go_wp2_with fail
          rw [← ev_some (errAt W) 7]
          refine (is_any HEc.out (101 + 7) (.inr (by omega)) 108).mono ?_
          rintro e w20 ⟨rfl, hb20⟩
          have HB20 := Lib.hid ((Hc.out.below hb20 (Nat.le_refl _)).to_below (HST.out.trans HSZ.out))
          clear hb20
          go_wp2_with fail
          go_ret
          exact ⟨rfl, HB20.out⟩

        · obtain ⟨en2, rfl⟩ : ∃ n : Nat, ez = (n : Int) := ⟨ez.toNat, by omega⟩
          subst hbn
          have hbn3 : ¬ bn = 0 := by omega
          go_wp2_with fail
          refine (screate_on (C.sub HSZ.out) HDZ.out HIZ.out bn (by omega) en2 (by omega) (by omega) (HNZ.out _ (fun e => hbn3 (segNm_inj bn 0 (by omega) (by omega) e))) (by have := HQ1.out; omega) (by have := HQ2.out; omega) (by have := HQ3.out; omega) HQ4.out HQ5.out (Hp.mid HZ.out)).mono ?_
          rintro e wc ⟨sc, Asc, Adc, Dc, rfl, hGc, -, hOc, -, -, -, -, -, -, hHc⟩
          have Hc := Lib.hid hHc
          have HGc := Lib.hid hGc
          have HOc := Lib.hid hOc
          have HEc : Hid (Sg.end_ ⟨d, segNm bn, bn, en2, [], 0⟩ = (bn : Int)) := rfl
          clear hHc hGc hOc
          go_wp2_with fail
          refine (end_any HGc.out HOc.out.W Hc.out).mono ?_
          rintro e w20 ⟨rfl, hH20⟩
          rw [HEc.out]
          have HB20 := Lib.hid (hH20.to_below (HST.out.trans HSZ.out))
          clear hH20
          go_wp2_with fail
          go_ret
          exact ⟨by simp [hbn3], HB20.out⟩

  · have hko : j < out2.length := by have := HON.out; omega
    obtain ⟨gl, ol, cap, hvv, hcp, hbc⟩ := HB4.out.at_ hko
    simp only [Value.slice.injEq] at hvv
    obtain ⟨rfl, -, rfl⟩ := hvv
    have hx : (out2[j]'hko).1 = y := by
      have h1 := HM2.out
      have h2 : (out2.map (·.1))[j]? = some y := by rw [h1]; exact hLj
      rw [List.getElem?_map, List.getElem?_eq_getElem hko] at h2
      simpa using h2
    obtain ⟨-, c0, c1, c2, -⟩ := H4'.out.use hbc
    rw [hx] at c0 c1
    have HLJ := Lib.hid hLj
    clear hbc hx hLj c0 c2
    go_wp2_with fail
    refine (rvalid_any x (by omega) _ _ (H4'.out.use (HVP.out.sub HS4.out))).mono ?_
    rintro e w5 ⟨rfl, hb5⟩
    have H4 := Lib.hid (H4'.out.below hb5 (Nat.le_refl _))
    obtain ⟨hlk0, hlkn⟩ : D.look (segNm 0) = some fz ∧ ∀ s', s' ≠ segNm 0 → D.look s' = none := ⟨HLK0.out, HLKN.out⟩
    have hcr := HCR0.out
    rw [HC.out]
    clear hb5 k0 k1 k2
    by_cases hc0 : c = 0
    · subst hc0
      rw [show ((0 : Nat) : Int) = 0 from rfl]
      have hxo : BtOk x := vcode_ok x HC.out
      have HXO := Lib.hid hxo
      have hszx := szB_le x hxo
      clear hxo
      by_cases hbe : x.b = en
      · have HEQ := Lib.hid hbe
        by_cases hel : x.e < y.e
        · have HLT := Lib.hid hel
          have HNF : Hid (Sg.foll ⟨d, segNm 0, 0, 100, L, 0⟩ x = false) := by
            show Sg.foll _ x = false
            unfold Sg.foll
            rw [end_eq, lastE_eq]
            show (decide (x.b = endOf ((0 : Nat) : Int) L) && decide (epOf 0 L ≤ x.e)) = false
            rw [HEN.out, HLA.out]
            simp; omega
          clear hbe hel
          go_wp2_with fail
          refine wp_region_hp (by kernel_rfl) (by decide) _ _ H4.out (fun i _ v => match i with | 0 => v = .int .i64 0 | 1 => v = .bool true | 2 => v = .bool true | 3 => v = .pointer (some ⟨W.heap.size, 0, none⟩) | 4 => v = .int .i64 x.b | 5 => v = ptr s | 6 => v = .int .i64 en | 7 => v = .bool false | 8 => v = .bool false | 9 => v = .pointer (some ⟨W.heap.size, 1, none⟩) | 10 => v = .int .i64 x.e | 11 => v = .int .i64 y.e | 12 => v = .bool true | 13 => v = .bool true | 14 => v = .bool true | _ => True) (by intro i P P' v _ h; exact h) ?_ ?_
          · intro i o ho u wq Pq hsq hHq hp K hK
            rcases i with _ | _ | _ | _ | _ | _ | _ | _ | _ | _ | _ | _ | _ | _ | _ | i
            · cases ho
              simp only [frOf, Act.put, List.setIfInBounds_toArray, List.set_cons_zero, List.set_cons_succ, Nat.zero_add, Nat.reduceAdd] at hK ⊢
              go_simp
              exact hK _ wq Pq (Sub.refl _) hHq rfl
            · cases ho
              have h0 : u 0 = .int .i64 0 := hp ⟨0, .data⟩ (by simp) rfl
              simp only [frOf, Act.put, List.setIfInBounds_toArray, List.set_cons_zero, List.set_cons_succ, Nat.zero_add, Nat.reduceAdd] at hK ⊢
              simp only [h0] at hK ⊢
              go_simp
              exact hK _ wq Pq (Sub.refl _) hHq rfl
            · cases ho
              have h1 : u 1 = .bool true := hp ⟨1, .data⟩ (by simp) rfl
              simp only [frOf, Act.put, List.setIfInBounds_toArray, List.set_cons_zero, List.set_cons_succ, Nat.zero_add, Nat.reduceAdd] at hK ⊢
              simp only [h1] at hK ⊢
              go_simp
              exact hK _ wq Pq (Sub.refl _) hHq rfl
            · cases ho
              have h2 : u 2 = .bool true := hp ⟨2, .guard⟩ (by simp) rfl
              simp only [frOf, Act.put, List.setIfInBounds_toArray, List.set_cons_zero, List.set_cons_succ, Nat.zero_add, Nat.reduceAdd] at hK ⊢
              simp only [h2] at hK ⊢
              go_simp
              exact hK _ wq Pq (Sub.refl _) hHq rfl
            · cases ho
              have h3 : u 3 = .pointer (some ⟨W.heap.size, 0, none⟩) := hp ⟨3, .data⟩ (by simp) rfl
              have h2 : u 2 = .bool true := hp ⟨2, .guard⟩ (by simp) rfl
              simp only [frOf, Act.put, List.setIfInBounds_toArray, List.set_cons_zero, List.set_cons_succ, Nat.zero_add, Nat.reduceAdd] at hK ⊢
              simp only [h3, h2] at hK ⊢
              obtain ⟨k0, k1, k2⟩ := hHq.use (HBX4.out.sub hsq)
              go_simp
              exact hK _ wq Pq (Sub.refl _) hHq rfl
            · cases ho
              have h2 : u 2 = .bool true := hp ⟨2, .guard⟩ (by simp) rfl
              simp only [frOf, Act.put, List.setIfInBounds_toArray, List.set_cons_zero, List.set_cons_succ, Nat.zero_add, Nat.reduceAdd] at hK ⊢
              simp only [h2] at hK ⊢
              go_simp
              exact hK _ wq Pq (Sub.refl _) hHq rfl
            · cases ho
              have h5 : u 5 = ptr s := hp ⟨5, .data⟩ (by simp) rfl
              have h2 : u 2 = .bool true := hp ⟨2, .guard⟩ (by simp) rfl
              simp only [frOf, Act.put, List.setIfInBounds_toArray, List.set_cons_zero, List.set_cons_succ, Nat.zero_add, Nat.reduceAdd] at hK ⊢
              simp only [h5, h2] at hK ⊢
              go_simp
              with_reducible refine (end_any HG.out HO.out.W hHq).mono ?_
              rintro e w3 ⟨rfl, hH3⟩
              rw [HEN2.out]
              exact hK _ w3 Pq (Sub.refl _) hH3 rfl
            · cases ho
              have h4 : u 4 = .int .i64 x.b := hp ⟨4, .data⟩ (by simp) rfl
              have h6 : u 6 = .int .i64 en := hp ⟨6, .data⟩ (by simp) rfl
              have h2 : u 2 = .bool true := hp ⟨2, .guard⟩ (by simp) rfl
              simp only [frOf, Act.put, List.setIfInBounds_toArray, List.set_cons_zero, List.set_cons_succ, Nat.zero_add, Nat.reduceAdd] at hK ⊢
              simp only [h4, h6, h2] at hK ⊢
              go_simp
              exact hK _ wq Pq (Sub.refl _) hHq (by simp [HEQ.out])
            · cases ho
              have h7 : u 7 = .bool false := hp ⟨7, .data⟩ (by simp) rfl
              have h2 : u 2 = .bool true := hp ⟨2, .guard⟩ (by simp) rfl
              simp only [frOf, Act.put, List.setIfInBounds_toArray, List.set_cons_zero, List.set_cons_succ, Nat.zero_add, Nat.reduceAdd] at hK ⊢
              simp only [h7, h2] at hK ⊢
              go_simp
              exact hK _ wq Pq (Sub.refl _) hHq rfl
            · cases ho
              have h8 : u 8 = .bool false := hp ⟨8, .guard⟩ (by simp) rfl
              simp only [frOf, Act.put, List.setIfInBounds_toArray, List.set_cons_zero, List.set_cons_succ, Nat.zero_add, Nat.reduceAdd] at hK ⊢
              simp only [h8] at hK ⊢
              go_simp
              exact hK _ wq Pq (Sub.refl _) hHq rfl
            · cases ho
              have h9 : u 9 = .pointer (some ⟨W.heap.size, 1, none⟩) := hp ⟨9, .data⟩ (by simp) rfl
              have h8 : u 8 = .bool false := hp ⟨8, .guard⟩ (by simp) rfl
              simp only [frOf, Act.put, List.setIfInBounds_toArray, List.set_cons_zero, List.set_cons_succ, Nat.zero_add, Nat.reduceAdd] at hK ⊢
              simp only [h9, h8] at hK ⊢
              obtain ⟨k0, k1, k2⟩ := hHq.use (HBX4.out.sub hsq)
              go_simp
              exact hK _ wq Pq (Sub.refl _) hHq rfl
            · cases ho
              have h8 : u 8 = .bool false := hp ⟨8, .guard⟩ (by simp) rfl
              simp only [frOf, Act.put, List.setIfInBounds_toArray, List.set_cons_zero, List.set_cons_succ, Nat.zero_add, Nat.reduceAdd] at hK ⊢
              simp only [h8] at hK ⊢
              go_simp
              exact hK _ wq Pq (Sub.refl _) hHq rfl
            · cases ho
              have h10 : u 10 = .int .i64 x.e := hp ⟨10, .data⟩ (by simp) rfl
              have h11 : u 11 = .int .i64 y.e := hp ⟨11, .data⟩ (by simp) rfl
              have h8 : u 8 = .bool false := hp ⟨8, .guard⟩ (by simp) rfl
              simp only [frOf, Act.put, List.setIfInBounds_toArray, List.set_cons_zero, List.set_cons_succ, Nat.zero_add, Nat.reduceAdd] at hK ⊢
              simp only [h10, h11, h8] at hK ⊢
              go_simp
              exact hK _ wq Pq (Sub.refl _) hHq (by simp [HLT.out])
            · cases ho
              have h8 : u 8 = .bool false := hp ⟨8, .data⟩ (by simp) rfl
              have h12 : u 12 = .bool true := hp ⟨12, .data⟩ (by simp) rfl
              have h2 : u 2 = .bool true := hp ⟨2, .guard⟩ (by simp) rfl
              simp only [frOf, Act.put, List.setIfInBounds_toArray, List.set_cons_zero, List.set_cons_succ, Nat.zero_add, Nat.reduceAdd] at hK ⊢
              simp only [h8, h12, h2] at hK ⊢
              go_simp
              exact hK _ wq Pq (Sub.refl _) hHq rfl
            · cases ho
              have h2 : u 2 = .bool true := hp ⟨2, .data⟩ (by simp) rfl
              have h13 : u 13 = .bool true := hp ⟨13, .data⟩ (by simp) rfl
              simp only [frOf, Act.put, List.setIfInBounds_toArray, List.set_cons_zero, List.set_cons_succ, Nat.zero_add, Nat.reduceAdd] at hK ⊢
              simp only [h2, h13] at hK ⊢
              go_simp
              exact hK _ wq Pq (Sub.refl _) hHq rfl
            · exact absurd ho (by simp)
          · intro u wq Pq hsq hHq hR
            have h14 : u 14 = .bool true := hR 14 (by decide)
            simp only [frOf, List.setIfInBounds_toArray, List.set_cons_zero, List.set_cons_succ, Nat.zero_add, Nat.reduceAdd]
            simp only [h14]
            have H5 := Lib.hid (hHq.weaken hsq)
            obtain ⟨k0, k1, k2⟩ := H5.out.use HBX4.out
            clear hR hHq hsq h14
            go_wp2_with fail
            refine (sappend_shape (C.sub HS4.out) HG.out HO.out x HXO.out HXB.out _ (HVP.out.sub HS4.out) HNF.out H5.out).mono ?_
            rintro e w6 ⟨rfl, P6, hs6, hH6⟩
            have HY := Lib.hid hH6
            have HSY := Lib.hid (HS4.out.trans hs6)
            have HS6 := Lib.hid hs6
            have HGY := HG
            have HOY := HO
            have HDY := Lib.hid (HD4.out.sub hs6)
            clear hH6 k0 k1 k2 hs6
            have hEy := (C.errs.sub HSY.out) _ HY.out.agr
            rw [hS19] at hEy
            have HEY := Lib.hid hEy
            clear hEy
            go_wp2_with fail
            refine (sraw_on (C.sub HSY.out) HGY.out HOY.out HDY.out HY.out).mono ?_
            rintro e w8 ⟨v8, P8, rfl, hs8, hp8, hH8⟩
            obtain ⟨va8, vc8, rfl, -⟩ := (hH8.use hp8).shape
            obtain ⟨fl8, hfl8⟩ : ∃ f, (flatB (⟨d, segNm 0, 0, 100, L, 0⟩ : Sg).l).length = f := ⟨_, rfl⟩
            rw [hfl8] at hp8 ⊢
            have H8 := Lib.hid hH8
            have HP8 := Lib.hid hp8
            have HS8 := Lib.hid hs8
            have HSZ := Lib.hid (HSY.out.trans hs8)
            have HDZ := Lib.hid (HDY.out.sub hs8)
            have hE8 := (C.errs.sub HSZ.out) _ hH8.agr
            rw [hS19] at hE8
            have HE8 := Lib.hid hE8
            have HFL8 := Lib.hid hfl8
            clear hH8 hp8 hs8 hE8 hfl8
            go_wp2_with fail

            have HS48 := Lib.hid (HS6.out.trans HS8.out)
            rw [← ev_some (errAt W) 2]
            refine (is_any HE8.out (101 + 2) (.inr (by omega)) 103).mono ?_
            rintro e w9 ⟨rfl, hb9⟩
            have H9 := Lib.hid (H8.out.below hb9 (Nat.le_refl _))
            clear hb9
            go_wp2_with fail

            refine (samebytes_ok _ _ (flatB L) _ (H9.out.use (HP4.out.sub HS48.out)) (H9.out.use HP8.out) (by rw [HFL.out]; omega)).mono ?_
            rintro e w10 ⟨rfl, hb10⟩
            have HZ := Lib.hid (H9.out.below hb10 (Nat.le_refl _))
            clear hb10
            have HIZ := Lib.hid HO.out.I
            have HLZ := Lib.hid hlk0
            have HNZ := Lib.hid hlkn
            have HQ1 := Lib.hid hq1
            have HQ2 := Lib.hid hq2
            have HQ3 := Lib.hid hq3
            have HQ4 := Lib.hid HO.out.room
            have HQ5 := Lib.hid HO.out.used

            go_wp2_with fail
            rcases hcr with hbad | ⟨hb0, hev1, hev2⟩ | ⟨bn, hbn, hbn1, hbn2, hev1, hev2⟩
            · go_wp2_with fail
              refine (screate_bad (d := d) (C.sub HSZ.out) bz ez hbad HZ.out).mono ?_
              rintro e wc ⟨rfl, hHc⟩
              have hEc := (C.errs.sub HSZ.out) _ hHc.agr
              rw [hS19] at hEc
              have Hc := Lib.hid hHc
              have HEc := Lib.hid hEc
              clear hHc hEc

              have hq : bz < 0 ∨ (¬ bz < 0 ∧ 1099511627776 < bz) ∨ (¬ bz < 0 ∧ ¬ 1099511627776 < bz ∧ ez < 1) ∨ (¬ bz < 0 ∧ ¬ 1099511627776 < bz ∧ ¬ ez < 1 ∧ 1048576 < ez) := by omega
              clear hbad
              rcases hq with q1 | ⟨q1, q2⟩ | ⟨q1, q2, q3⟩ | ⟨q1, q2, q3, q4⟩
              · go_wp2_with fail
                rw [← ev_some (errAt W) 4]
                refine (is_any HEc.out (101 + 4) (.inr (by omega)) 105).mono ?_
                rintro e w20 ⟨rfl, hb20⟩
                have HB20 := Lib.hid ((Hc.out.below hb20 (Nat.le_refl _)).to_below (HST.out.trans HSZ.out))
                clear hb20
                go_wp2_with fail
                go_ret
                exact ⟨rfl, HB20.out⟩

              · go_wp2_with fail
                rw [← ev_some (errAt W) 4]
                refine (is_any HEc.out (101 + 4) (.inr (by omega)) 105).mono ?_
                rintro e w20 ⟨rfl, hb20⟩
                have HB20 := Lib.hid ((Hc.out.below hb20 (Nat.le_refl _)).to_below (HST.out.trans HSZ.out))
                clear hb20
                go_wp2_with fail
                go_ret
                exact ⟨rfl, HB20.out⟩

              · go_wp2_with fail
                rw [← ev_some (errAt W) 4]
                refine (is_any HEc.out (101 + 4) (.inr (by omega)) 105).mono ?_
                rintro e w20 ⟨rfl, hb20⟩
                have HB20 := Lib.hid ((Hc.out.below hb20 (Nat.le_refl _)).to_below (HST.out.trans HSZ.out))
                clear hb20
                go_wp2_with fail
                go_ret
                exact ⟨rfl, HB20.out⟩

              · go_wp2_with fail
                rw [← ev_some (errAt W) 4]
                refine (is_any HEc.out (101 + 4) (.inr (by omega)) 105).mono ?_
                rintro e w20 ⟨rfl, hb20⟩
                have HB20 := Lib.hid ((Hc.out.below hb20 (Nat.le_refl _)).to_below (HST.out.trans HSZ.out))
                clear hb20
                go_wp2_with fail
                go_ret
                exact ⟨rfl, HB20.out⟩

            · subst hb0
              obtain ⟨en2, rfl⟩ : ∃ n : Nat, ez = (n : Int) := ⟨ez.toNat, by omega⟩
              go_wp2_with fail
              refine (screate_there (C.sub HSZ.out) HDZ.out HIZ.out 0 (by decide) en2 (by omega) (by omega) fz HLZ.out (Hp.mid HZ.out)).mono ?_
              rintro e wc ⟨rfl, Ac, hHc⟩
              have hEc := (C.errs.sub HSZ.out) _ hHc.agr
              rw [hS19] at hEc
              have Hc := Lib.hid hHc
              have HEc := Lib.hid hEc
              clear hHc hEc

              go_wp2_with fail
              rw [← ev_some (errAt W) 7]
              refine (is_any HEc.out (101 + 7) (.inr (by omega)) 108).mono ?_
              rintro e w20 ⟨rfl, hb20⟩
              have HB20 := Lib.hid ((Hc.out.below hb20 (Nat.le_refl _)).to_below (HST.out.trans HSZ.out))
              clear hb20
              go_wp2_with fail
              go_ret
              exact ⟨rfl, HB20.out⟩

            · obtain ⟨en2, rfl⟩ : ∃ n : Nat, ez = (n : Int) := ⟨ez.toNat, by omega⟩
              subst hbn
              have hbn3 : ¬ bn = 0 := by omega
              go_wp2_with fail
              refine (screate_on (C.sub HSZ.out) HDZ.out HIZ.out bn (by omega) en2 (by omega) (by omega) (HNZ.out _ (fun e => hbn3 (segNm_inj bn 0 (by omega) (by omega) e))) (by have := HQ1.out; omega) (by have := HQ2.out; omega) (by have := HQ3.out; omega) HQ4.out HQ5.out (Hp.mid HZ.out)).mono ?_
              rintro e wc ⟨sc, Asc, Adc, Dc, rfl, hGc, -, hOc, -, -, -, -, -, -, hHc⟩
              have Hc := Lib.hid hHc
              have HGc := Lib.hid hGc
              have HOc := Lib.hid hOc
              have HEc : Hid (Sg.end_ ⟨d, segNm bn, bn, en2, [], 0⟩ = (bn : Int)) := rfl
              clear hHc hGc hOc
              go_wp2_with fail
              refine (end_any HGc.out HOc.out.W Hc.out).mono ?_
              rintro e w20 ⟨rfl, hH20⟩
              rw [HEc.out]
              have HB20 := Lib.hid (hH20.to_below (HST.out.trans HSZ.out))
              clear hH20
              go_wp2_with fail
              go_ret
              exact ⟨by simp [hbn3], HB20.out⟩

        · have HGE := Lib.hid hel
          have HF : Hid (Sg.foll ⟨d, segNm 0, 0, 100, L, 0⟩ x = true) := by
            show Sg.foll _ x = true
            unfold Sg.foll
            rw [end_eq, lastE_eq]
            show (decide (x.b = endOf ((0 : Nat) : Int) L) && decide (epOf 0 L ≤ x.e)) = true
            rw [HEN.out, HLA.out]
            simp; omega
          have HROOM : Hid (D.used + szB x ≤ D.room) := by have := HROOM0.out; show _ ≤ _; omega
          clear hbe hel
          go_wp2_with fail
          refine wp_region_hp (by kernel_rfl) (by decide) _ _ H4.out (fun i _ v => match i with | 0 => v = .int .i64 0 | 1 => v = .bool true | 2 => v = .bool true | 3 => v = .pointer (some ⟨W.heap.size, 0, none⟩) | 4 => v = .int .i64 x.b | 5 => v = ptr s | 6 => v = .int .i64 en | 7 => v = .bool false | 8 => v = .bool false | 9 => v = .pointer (some ⟨W.heap.size, 1, none⟩) | 10 => v = .int .i64 x.e | 11 => v = .int .i64 y.e | 12 => v = .bool false | 13 => v = .bool false | 14 => v = .bool false | _ => True) (by intro i P P' v _ h; exact h) ?_ ?_
          · intro i o ho u wq Pq hsq hHq hp K hK
            rcases i with _ | _ | _ | _ | _ | _ | _ | _ | _ | _ | _ | _ | _ | _ | _ | i
            · cases ho
              simp only [frOf, Act.put, List.setIfInBounds_toArray, List.set_cons_zero, List.set_cons_succ, Nat.zero_add, Nat.reduceAdd] at hK ⊢
              go_simp
              exact hK _ wq Pq (Sub.refl _) hHq rfl
            · cases ho
              have h0 : u 0 = .int .i64 0 := hp ⟨0, .data⟩ (by simp) rfl
              simp only [frOf, Act.put, List.setIfInBounds_toArray, List.set_cons_zero, List.set_cons_succ, Nat.zero_add, Nat.reduceAdd] at hK ⊢
              simp only [h0] at hK ⊢
              go_simp
              exact hK _ wq Pq (Sub.refl _) hHq rfl
            · cases ho
              have h1 : u 1 = .bool true := hp ⟨1, .data⟩ (by simp) rfl
              simp only [frOf, Act.put, List.setIfInBounds_toArray, List.set_cons_zero, List.set_cons_succ, Nat.zero_add, Nat.reduceAdd] at hK ⊢
              simp only [h1] at hK ⊢
              go_simp
              exact hK _ wq Pq (Sub.refl _) hHq rfl
            · cases ho
              have h2 : u 2 = .bool true := hp ⟨2, .guard⟩ (by simp) rfl
              simp only [frOf, Act.put, List.setIfInBounds_toArray, List.set_cons_zero, List.set_cons_succ, Nat.zero_add, Nat.reduceAdd] at hK ⊢
              simp only [h2] at hK ⊢
              go_simp
              exact hK _ wq Pq (Sub.refl _) hHq rfl
            · cases ho
              have h3 : u 3 = .pointer (some ⟨W.heap.size, 0, none⟩) := hp ⟨3, .data⟩ (by simp) rfl
              have h2 : u 2 = .bool true := hp ⟨2, .guard⟩ (by simp) rfl
              simp only [frOf, Act.put, List.setIfInBounds_toArray, List.set_cons_zero, List.set_cons_succ, Nat.zero_add, Nat.reduceAdd] at hK ⊢
              simp only [h3, h2] at hK ⊢
              obtain ⟨k0, k1, k2⟩ := hHq.use (HBX4.out.sub hsq)
              go_simp
              exact hK _ wq Pq (Sub.refl _) hHq rfl
            · cases ho
              have h2 : u 2 = .bool true := hp ⟨2, .guard⟩ (by simp) rfl
              simp only [frOf, Act.put, List.setIfInBounds_toArray, List.set_cons_zero, List.set_cons_succ, Nat.zero_add, Nat.reduceAdd] at hK ⊢
              simp only [h2] at hK ⊢
              go_simp
              exact hK _ wq Pq (Sub.refl _) hHq rfl
            · cases ho
              have h5 : u 5 = ptr s := hp ⟨5, .data⟩ (by simp) rfl
              have h2 : u 2 = .bool true := hp ⟨2, .guard⟩ (by simp) rfl
              simp only [frOf, Act.put, List.setIfInBounds_toArray, List.set_cons_zero, List.set_cons_succ, Nat.zero_add, Nat.reduceAdd] at hK ⊢
              simp only [h5, h2] at hK ⊢
              go_simp
              with_reducible refine (end_any HG.out HO.out.W hHq).mono ?_
              rintro e w3 ⟨rfl, hH3⟩
              rw [HEN2.out]
              exact hK _ w3 Pq (Sub.refl _) hH3 rfl
            · cases ho
              have h4 : u 4 = .int .i64 x.b := hp ⟨4, .data⟩ (by simp) rfl
              have h6 : u 6 = .int .i64 en := hp ⟨6, .data⟩ (by simp) rfl
              have h2 : u 2 = .bool true := hp ⟨2, .guard⟩ (by simp) rfl
              simp only [frOf, Act.put, List.setIfInBounds_toArray, List.set_cons_zero, List.set_cons_succ, Nat.zero_add, Nat.reduceAdd] at hK ⊢
              simp only [h4, h6, h2] at hK ⊢
              go_simp
              exact hK _ wq Pq (Sub.refl _) hHq (by simp [HEQ.out])
            · cases ho
              have h7 : u 7 = .bool false := hp ⟨7, .data⟩ (by simp) rfl
              have h2 : u 2 = .bool true := hp ⟨2, .guard⟩ (by simp) rfl
              simp only [frOf, Act.put, List.setIfInBounds_toArray, List.set_cons_zero, List.set_cons_succ, Nat.zero_add, Nat.reduceAdd] at hK ⊢
              simp only [h7, h2] at hK ⊢
              go_simp
              exact hK _ wq Pq (Sub.refl _) hHq rfl
            · cases ho
              have h8 : u 8 = .bool false := hp ⟨8, .guard⟩ (by simp) rfl
              simp only [frOf, Act.put, List.setIfInBounds_toArray, List.set_cons_zero, List.set_cons_succ, Nat.zero_add, Nat.reduceAdd] at hK ⊢
              simp only [h8] at hK ⊢
              go_simp
              exact hK _ wq Pq (Sub.refl _) hHq rfl
            · cases ho
              have h9 : u 9 = .pointer (some ⟨W.heap.size, 1, none⟩) := hp ⟨9, .data⟩ (by simp) rfl
              have h8 : u 8 = .bool false := hp ⟨8, .guard⟩ (by simp) rfl
              simp only [frOf, Act.put, List.setIfInBounds_toArray, List.set_cons_zero, List.set_cons_succ, Nat.zero_add, Nat.reduceAdd] at hK ⊢
              simp only [h9, h8] at hK ⊢
              obtain ⟨k0, k1, k2⟩ := hHq.use (HBX4.out.sub hsq)
              go_simp
              exact hK _ wq Pq (Sub.refl _) hHq rfl
            · cases ho
              have h8 : u 8 = .bool false := hp ⟨8, .guard⟩ (by simp) rfl
              simp only [frOf, Act.put, List.setIfInBounds_toArray, List.set_cons_zero, List.set_cons_succ, Nat.zero_add, Nat.reduceAdd] at hK ⊢
              simp only [h8] at hK ⊢
              go_simp
              exact hK _ wq Pq (Sub.refl _) hHq rfl
            · cases ho
              have h10 : u 10 = .int .i64 x.e := hp ⟨10, .data⟩ (by simp) rfl
              have h11 : u 11 = .int .i64 y.e := hp ⟨11, .data⟩ (by simp) rfl
              have h8 : u 8 = .bool false := hp ⟨8, .guard⟩ (by simp) rfl
              simp only [frOf, Act.put, List.setIfInBounds_toArray, List.set_cons_zero, List.set_cons_succ, Nat.zero_add, Nat.reduceAdd] at hK ⊢
              simp only [h10, h11, h8] at hK ⊢
              go_simp
              exact hK _ wq Pq (Sub.refl _) hHq (by simp [HGE.out])
            · cases ho
              have h8 : u 8 = .bool false := hp ⟨8, .data⟩ (by simp) rfl
              have h12 : u 12 = .bool false := hp ⟨12, .data⟩ (by simp) rfl
              have h2 : u 2 = .bool true := hp ⟨2, .guard⟩ (by simp) rfl
              simp only [frOf, Act.put, List.setIfInBounds_toArray, List.set_cons_zero, List.set_cons_succ, Nat.zero_add, Nat.reduceAdd] at hK ⊢
              simp only [h8, h12, h2] at hK ⊢
              go_simp
              exact hK _ wq Pq (Sub.refl _) hHq rfl
            · cases ho
              have h2 : u 2 = .bool true := hp ⟨2, .data⟩ (by simp) rfl
              have h13 : u 13 = .bool false := hp ⟨13, .data⟩ (by simp) rfl
              simp only [frOf, Act.put, List.setIfInBounds_toArray, List.set_cons_zero, List.set_cons_succ, Nat.zero_add, Nat.reduceAdd] at hK ⊢
              simp only [h2, h13] at hK ⊢
              go_simp
              exact hK _ wq Pq (Sub.refl _) hHq rfl
            · exact absurd ho (by simp)
          · intro u wq Pq hsq hHq hR
            have h14 : u 14 = .bool false := hR 14 (by decide)
            simp only [frOf, List.setIfInBounds_toArray, List.set_cons_zero, List.set_cons_succ, Nat.zero_add, Nat.reduceAdd]
            simp only [h14]
            have H5 := Lib.hid (hHq.weaken hsq)
            obtain ⟨k0, k1, k2⟩ := H5.out.use HBX4.out
            clear hR hHq hsq h14
            go_wp2_with fail
            refine (sappend_on (C.sub HS4.out) HG.out HO.out HD4.out x HXO.out HXB.out _ (HVP.out.sub HS4.out) HF.out HROOM.out H5.out).mono ?_
            rintro e w6 ⟨rfl, P6, A6, Ad6, D6, hs6, hG6, hD6, hO6, hsm6, hus6, hlk6, hH6⟩
            have HY := Lib.hid hH6
            have HSY := Lib.hid (HS4.out.trans hs6)
            have HGY := Lib.hid hG6
            have HOY := Lib.hid hO6
            have HDY := Lib.hid hD6
            obtain ⟨fz6, hfz6, -, -⟩ := hO6.f
            have HLZ := Lib.hid hfz6
            have HNZ : Hid (∀ s', s' ≠ segNm 0 → D6.look s' = none) := fun s' hs' => (hlk6 s' hs').trans (hlkn s' hs')
            have HQ1 : Hid (D6.n ≤ 10) := by have := hsm6.n; show _ ≤ _; omega
            have HQ2 : Hid (D6.nm.length ≤ 10) := by have := hsm6.nml; show _ ≤ _; omega
            have HQ3 : Hid (D6.ch.length ≤ 10) := by have := hsm6.ch; show _ ≤ _; omega
            have HQ4 := Lib.hid hO6.room
            have HQ5 := Lib.hid hO6.used
            have HIZ := Lib.hid hO6.I
            clear hH6 k0 k1 k2 hs6 hG6 hD6 hO6 hsm6 hus6 hlk6 hfz6
            have hEy := (C.errs.sub HSY.out) _ HY.out.agr
            rw [hS19] at hEy
            have HEY := Lib.hid hEy
            clear hEy
            go_wp2_with fail
            refine (sraw_on (C.sub HSY.out) HGY.out HOY.out HDY.out HY.out).mono ?_
            rintro e w8 ⟨v8, P8, rfl, hs8, hp8, hH8⟩
            obtain ⟨va8, vc8, rfl, -⟩ := (hH8.use hp8).shape
            obtain ⟨fl8, hfl8⟩ : ∃ f, (flatB (Sg.push ⟨d, segNm 0, 0, 100, L, 0⟩ x).l).length = f := ⟨_, rfl⟩
            rw [hfl8] at hp8 ⊢
            have H8 := Lib.hid hH8
            have HP8 := Lib.hid hp8
            have HS8 := Lib.hid hs8
            have HSZ := Lib.hid (HSY.out.trans hs8)
            have HDZ := Lib.hid (HDY.out.sub hs8)
            have hE8 := (C.errs.sub HSZ.out) _ hH8.agr
            rw [hS19] at hE8
            have HE8 := Lib.hid hE8
            have HFL8 := Lib.hid hfl8
            clear hH8 hp8 hs8 hE8 hfl8
            go_wp2_with fail

            rw [← ev_zero (errAt W)]
            refine (is_any HE8.out (0) (.inl rfl) 0).mono ?_
            rintro e w9 ⟨rfl, hb9⟩
            have HZ := Lib.hid (H8.out.below hb9 (Nat.le_refl _))
            clear hb9
            go_wp2_with fail

            rcases hcr with hbad | ⟨hb0, hev1, hev2⟩ | ⟨bn, hbn, hbn1, hbn2, hev1, hev2⟩
            · go_wp2_with fail
              refine (screate_bad (d := d) (C.sub HSZ.out) bz ez hbad HZ.out).mono ?_
              rintro e wc ⟨rfl, hHc⟩
              have hEc := (C.errs.sub HSZ.out) _ hHc.agr
              rw [hS19] at hEc
              have Hc := Lib.hid hHc
              have HEc := Lib.hid hEc
              clear hHc hEc

              have hq : bz < 0 ∨ (¬ bz < 0 ∧ 1099511627776 < bz) ∨ (¬ bz < 0 ∧ ¬ 1099511627776 < bz ∧ ez < 1) ∨ (¬ bz < 0 ∧ ¬ 1099511627776 < bz ∧ ¬ ez < 1 ∧ 1048576 < ez) := by omega
              clear hbad
              rcases hq with q1 | ⟨q1, q2⟩ | ⟨q1, q2, q3⟩ | ⟨q1, q2, q3, q4⟩
              · go_wp2_with fail
                rw [← ev_some (errAt W) 4]
                refine (is_any HEc.out (101 + 4) (.inr (by omega)) 105).mono ?_
                rintro e w20 ⟨rfl, hb20⟩
                have HB20 := Lib.hid ((Hc.out.below hb20 (Nat.le_refl _)).to_below (HST.out.trans HSZ.out))
                clear hb20
                go_wp2_with fail
                go_ret
                exact ⟨rfl, HB20.out⟩

              · go_wp2_with fail
                rw [← ev_some (errAt W) 4]
                refine (is_any HEc.out (101 + 4) (.inr (by omega)) 105).mono ?_
                rintro e w20 ⟨rfl, hb20⟩
                have HB20 := Lib.hid ((Hc.out.below hb20 (Nat.le_refl _)).to_below (HST.out.trans HSZ.out))
                clear hb20
                go_wp2_with fail
                go_ret
                exact ⟨rfl, HB20.out⟩

              · go_wp2_with fail
                rw [← ev_some (errAt W) 4]
                refine (is_any HEc.out (101 + 4) (.inr (by omega)) 105).mono ?_
                rintro e w20 ⟨rfl, hb20⟩
                have HB20 := Lib.hid ((Hc.out.below hb20 (Nat.le_refl _)).to_below (HST.out.trans HSZ.out))
                clear hb20
                go_wp2_with fail
                go_ret
                exact ⟨rfl, HB20.out⟩

              · go_wp2_with fail
                rw [← ev_some (errAt W) 4]
                refine (is_any HEc.out (101 + 4) (.inr (by omega)) 105).mono ?_
                rintro e w20 ⟨rfl, hb20⟩
                have HB20 := Lib.hid ((Hc.out.below hb20 (Nat.le_refl _)).to_below (HST.out.trans HSZ.out))
                clear hb20
                go_wp2_with fail
                go_ret
                exact ⟨rfl, HB20.out⟩

            · subst hb0
              obtain ⟨en2, rfl⟩ : ∃ n : Nat, ez = (n : Int) := ⟨ez.toNat, by omega⟩
              go_wp2_with fail
              refine (screate_there (C.sub HSZ.out) HDZ.out HIZ.out 0 (by decide) en2 (by omega) (by omega) fz6 HLZ.out (Hp.mid HZ.out)).mono ?_
              rintro e wc ⟨rfl, Ac, hHc⟩
              have hEc := (C.errs.sub HSZ.out) _ hHc.agr
              rw [hS19] at hEc
              have Hc := Lib.hid hHc
              have HEc := Lib.hid hEc
              clear hHc hEc

              go_wp2_with fail
              rw [← ev_some (errAt W) 7]
              refine (is_any HEc.out (101 + 7) (.inr (by omega)) 108).mono ?_
              rintro e w20 ⟨rfl, hb20⟩
              have HB20 := Lib.hid ((Hc.out.below hb20 (Nat.le_refl _)).to_below (HST.out.trans HSZ.out))
              clear hb20
              go_wp2_with fail
              go_ret
              exact ⟨rfl, HB20.out⟩

            · obtain ⟨en2, rfl⟩ : ∃ n : Nat, ez = (n : Int) := ⟨ez.toNat, by omega⟩
              subst hbn
              have hbn3 : ¬ bn = 0 := by omega
              go_wp2_with fail
              refine (screate_on (C.sub HSZ.out) HDZ.out HIZ.out bn (by omega) en2 (by omega) (by omega) (HNZ.out _ (fun e => hbn3 (segNm_inj bn 0 (by omega) (by omega) e))) (by have := HQ1.out; omega) (by have := HQ2.out; omega) (by have := HQ3.out; omega) HQ4.out HQ5.out (Hp.mid HZ.out)).mono ?_
              rintro e wc ⟨sc, Asc, Adc, Dc, rfl, hGc, -, hOc, -, -, -, -, -, -, hHc⟩
              have Hc := Lib.hid hHc
              have HGc := Lib.hid hGc
              have HOc := Lib.hid hOc
              have HEc : Hid (Sg.end_ ⟨d, segNm bn, bn, en2, [], 0⟩ = (bn : Int)) := rfl
              clear hHc hGc hOc
              go_wp2_with fail
              refine (end_any HGc.out HOc.out.W Hc.out).mono ?_
              rintro e w20 ⟨rfl, hH20⟩
              rw [HEc.out]
              have HB20 := Lib.hid (hH20.to_below (HST.out.trans HSZ.out))
              clear hH20
              go_wp2_with fail
              go_ret
              exact ⟨by simp [hbn3], HB20.out⟩

      · have HNE := Lib.hid hbe
        have HNF : Hid (Sg.foll ⟨d, segNm 0, 0, 100, L, 0⟩ x = false) := by
          show Sg.foll _ x = false
          unfold Sg.foll
          rw [end_eq, lastE_eq]
          show (decide (x.b = endOf ((0 : Nat) : Int) L) && decide (epOf 0 L ≤ x.e)) = false
          rw [HEN.out]
          simp [hbe]
        go_wp2_with fail
        refine wp_region_hp (by kernel_rfl) (by decide) _ _ H4.out (fun i _ v => match i with | 0 => v = .int .i64 0 | 1 => v = .bool true | 2 => v = .bool true | 3 => v = .pointer (some ⟨W.heap.size, 0, none⟩) | 4 => v = .int .i64 x.b | 5 => v = ptr s | 6 => v = .int .i64 en | 7 => v = .bool true | 8 => v = .bool true | 9 => v = undef | 10 => v = undef | 11 => v = undef | 12 => v = undef | 13 => v = .bool true | 14 => v = .bool true | _ => True) (by intro i P P' v _ h; exact h) ?_ ?_
        · intro i o ho u wq Pq hsq hHq hp K hK
          rcases i with _ | _ | _ | _ | _ | _ | _ | _ | _ | _ | _ | _ | _ | _ | _ | i
          · cases ho
            simp only [frOf, Act.put, List.setIfInBounds_toArray, List.set_cons_zero, List.set_cons_succ, Nat.zero_add, Nat.reduceAdd] at hK ⊢
            go_simp
            exact hK _ wq Pq (Sub.refl _) hHq rfl
          · cases ho
            have h0 : u 0 = .int .i64 0 := hp ⟨0, .data⟩ (by simp) rfl
            simp only [frOf, Act.put, List.setIfInBounds_toArray, List.set_cons_zero, List.set_cons_succ, Nat.zero_add, Nat.reduceAdd] at hK ⊢
            simp only [h0] at hK ⊢
            go_simp
            exact hK _ wq Pq (Sub.refl _) hHq rfl
          · cases ho
            have h1 : u 1 = .bool true := hp ⟨1, .data⟩ (by simp) rfl
            simp only [frOf, Act.put, List.setIfInBounds_toArray, List.set_cons_zero, List.set_cons_succ, Nat.zero_add, Nat.reduceAdd] at hK ⊢
            simp only [h1] at hK ⊢
            go_simp
            exact hK _ wq Pq (Sub.refl _) hHq rfl
          · cases ho
            have h2 : u 2 = .bool true := hp ⟨2, .guard⟩ (by simp) rfl
            simp only [frOf, Act.put, List.setIfInBounds_toArray, List.set_cons_zero, List.set_cons_succ, Nat.zero_add, Nat.reduceAdd] at hK ⊢
            simp only [h2] at hK ⊢
            go_simp
            exact hK _ wq Pq (Sub.refl _) hHq rfl
          · cases ho
            have h3 : u 3 = .pointer (some ⟨W.heap.size, 0, none⟩) := hp ⟨3, .data⟩ (by simp) rfl
            have h2 : u 2 = .bool true := hp ⟨2, .guard⟩ (by simp) rfl
            simp only [frOf, Act.put, List.setIfInBounds_toArray, List.set_cons_zero, List.set_cons_succ, Nat.zero_add, Nat.reduceAdd] at hK ⊢
            simp only [h3, h2] at hK ⊢
            obtain ⟨k0, k1, k2⟩ := hHq.use (HBX4.out.sub hsq)
            go_simp
            exact hK _ wq Pq (Sub.refl _) hHq rfl
          · cases ho
            have h2 : u 2 = .bool true := hp ⟨2, .guard⟩ (by simp) rfl
            simp only [frOf, Act.put, List.setIfInBounds_toArray, List.set_cons_zero, List.set_cons_succ, Nat.zero_add, Nat.reduceAdd] at hK ⊢
            simp only [h2] at hK ⊢
            go_simp
            exact hK _ wq Pq (Sub.refl _) hHq rfl
          · cases ho
            have h5 : u 5 = ptr s := hp ⟨5, .data⟩ (by simp) rfl
            have h2 : u 2 = .bool true := hp ⟨2, .guard⟩ (by simp) rfl
            simp only [frOf, Act.put, List.setIfInBounds_toArray, List.set_cons_zero, List.set_cons_succ, Nat.zero_add, Nat.reduceAdd] at hK ⊢
            simp only [h5, h2] at hK ⊢
            go_simp
            with_reducible refine (end_any HG.out HO.out.W hHq).mono ?_
            rintro e w3 ⟨rfl, hH3⟩
            rw [HEN2.out]
            exact hK _ w3 Pq (Sub.refl _) hH3 rfl
          · cases ho
            have h4 : u 4 = .int .i64 x.b := hp ⟨4, .data⟩ (by simp) rfl
            have h6 : u 6 = .int .i64 en := hp ⟨6, .data⟩ (by simp) rfl
            have h2 : u 2 = .bool true := hp ⟨2, .guard⟩ (by simp) rfl
            simp only [frOf, Act.put, List.setIfInBounds_toArray, List.set_cons_zero, List.set_cons_succ, Nat.zero_add, Nat.reduceAdd] at hK ⊢
            simp only [h4, h6, h2] at hK ⊢
            go_simp
            exact hK _ wq Pq (Sub.refl _) hHq (by simp [HNE.out])
          · cases ho
            have h7 : u 7 = .bool true := hp ⟨7, .data⟩ (by simp) rfl
            have h2 : u 2 = .bool true := hp ⟨2, .guard⟩ (by simp) rfl
            simp only [frOf, Act.put, List.setIfInBounds_toArray, List.set_cons_zero, List.set_cons_succ, Nat.zero_add, Nat.reduceAdd] at hK ⊢
            simp only [h7, h2] at hK ⊢
            go_simp
            exact hK _ wq Pq (Sub.refl _) hHq rfl
          · cases ho
            have h8 : u 8 = .bool true := hp ⟨8, .guard⟩ (by simp) rfl
            simp only [frOf, Act.put, List.setIfInBounds_toArray, List.set_cons_zero, List.set_cons_succ, Nat.zero_add, Nat.reduceAdd] at hK ⊢
            simp only [h8]
            first | exact trivial | (go_simp; done) | (rw [if_neg (by decide)]; trivial) | (rw [if_neg (Bool.not_eq_true _ ▸ (by kernel_rfl))]; trivial)
          · cases ho
            have h9 : u 9 = undef := hp ⟨9, .data⟩ (by simp) rfl
            have h8 : u 8 = .bool true := hp ⟨8, .guard⟩ (by simp) rfl
            simp only [frOf, Act.put, List.setIfInBounds_toArray, List.set_cons_zero, List.set_cons_succ, Nat.zero_add, Nat.reduceAdd] at hK ⊢
            simp only [h9, h8]
            first | exact trivial | (go_simp; done) | (rw [if_neg (by decide)]; trivial) | (rw [if_neg (Bool.not_eq_true _ ▸ (by kernel_rfl))]; trivial)
          · cases ho
            have h8 : u 8 = .bool true := hp ⟨8, .guard⟩ (by simp) rfl
            simp only [frOf, Act.put, List.setIfInBounds_toArray, List.set_cons_zero, List.set_cons_succ, Nat.zero_add, Nat.reduceAdd] at hK ⊢
            simp only [h8]
            first | exact trivial | (go_simp; done) | (rw [if_neg (by decide)]; trivial) | (rw [if_neg (Bool.not_eq_true _ ▸ (by kernel_rfl))]; trivial)
          · cases ho
            have h10 : u 10 = undef := hp ⟨10, .data⟩ (by simp) rfl
            have h11 : u 11 = undef := hp ⟨11, .data⟩ (by simp) rfl
            have h8 : u 8 = .bool true := hp ⟨8, .guard⟩ (by simp) rfl
            simp only [frOf, Act.put, List.setIfInBounds_toArray, List.set_cons_zero, List.set_cons_succ, Nat.zero_add, Nat.reduceAdd] at hK ⊢
            simp only [h10, h11, h8]
            first | exact trivial | (go_simp; done) | (rw [if_neg (by decide)]; trivial) | (rw [if_neg (Bool.not_eq_true _ ▸ (by kernel_rfl))]; trivial)
          · cases ho
            have h8 : u 8 = .bool true := hp ⟨8, .data⟩ (by simp) rfl
            have h12 : u 12 = undef := hp ⟨12, .data⟩ (by simp) rfl
            have h2 : u 2 = .bool true := hp ⟨2, .guard⟩ (by simp) rfl
            simp only [frOf, Act.put, List.setIfInBounds_toArray, List.set_cons_zero, List.set_cons_succ, Nat.zero_add, Nat.reduceAdd] at hK ⊢
            simp only [h8, h12, h2] at hK ⊢
            go_simp
            exact hK _ wq Pq (Sub.refl _) hHq rfl
          · cases ho
            have h2 : u 2 = .bool true := hp ⟨2, .data⟩ (by simp) rfl
            have h13 : u 13 = .bool true := hp ⟨13, .data⟩ (by simp) rfl
            simp only [frOf, Act.put, List.setIfInBounds_toArray, List.set_cons_zero, List.set_cons_succ, Nat.zero_add, Nat.reduceAdd] at hK ⊢
            simp only [h2, h13] at hK ⊢
            go_simp
            exact hK _ wq Pq (Sub.refl _) hHq rfl
          · exact absurd ho (by simp)
        · intro u wq Pq hsq hHq hR
          have h14 : u 14 = .bool true := hR 14 (by decide)
          simp only [frOf, List.setIfInBounds_toArray, List.set_cons_zero, List.set_cons_succ, Nat.zero_add, Nat.reduceAdd]
          simp only [h14]
          have H5 := Lib.hid (hHq.weaken hsq)
          obtain ⟨k0, k1, k2⟩ := H5.out.use HBX4.out
          clear hR hHq hsq h14
          go_wp2_with fail
          refine (sappend_shape (C.sub HS4.out) HG.out HO.out x HXO.out HXB.out _ (HVP.out.sub HS4.out) HNF.out H5.out).mono ?_
          rintro e w6 ⟨rfl, P6, hs6, hH6⟩
          have HY := Lib.hid hH6
          have HSY := Lib.hid (HS4.out.trans hs6)
          have HS6 := Lib.hid hs6
          have HGY := HG
          have HOY := HO
          have HDY := Lib.hid (HD4.out.sub hs6)
          clear hH6 k0 k1 k2 hs6
          have hEy := (C.errs.sub HSY.out) _ HY.out.agr
          rw [hS19] at hEy
          have HEY := Lib.hid hEy
          clear hEy
          go_wp2_with fail
          refine (sraw_on (C.sub HSY.out) HGY.out HOY.out HDY.out HY.out).mono ?_
          rintro e w8 ⟨v8, P8, rfl, hs8, hp8, hH8⟩
          obtain ⟨va8, vc8, rfl, -⟩ := (hH8.use hp8).shape
          obtain ⟨fl8, hfl8⟩ : ∃ f, (flatB (⟨d, segNm 0, 0, 100, L, 0⟩ : Sg).l).length = f := ⟨_, rfl⟩
          rw [hfl8] at hp8 ⊢
          have H8 := Lib.hid hH8
          have HP8 := Lib.hid hp8
          have HS8 := Lib.hid hs8
          have HSZ := Lib.hid (HSY.out.trans hs8)
          have HDZ := Lib.hid (HDY.out.sub hs8)
          have hE8 := (C.errs.sub HSZ.out) _ hH8.agr
          rw [hS19] at hE8
          have HE8 := Lib.hid hE8
          have HFL8 := Lib.hid hfl8
          clear hH8 hp8 hs8 hE8 hfl8
          go_wp2_with fail

          have HS48 := Lib.hid (HS6.out.trans HS8.out)
          rw [← ev_some (errAt W) 2]
          refine (is_any HE8.out (101 + 2) (.inr (by omega)) 103).mono ?_
          rintro e w9 ⟨rfl, hb9⟩
          have H9 := Lib.hid (H8.out.below hb9 (Nat.le_refl _))
          clear hb9
          go_wp2_with fail

          refine (samebytes_ok _ _ (flatB L) _ (H9.out.use (HP4.out.sub HS48.out)) (H9.out.use HP8.out) (by rw [HFL.out]; omega)).mono ?_
          rintro e w10 ⟨rfl, hb10⟩
          have HZ := Lib.hid (H9.out.below hb10 (Nat.le_refl _))
          clear hb10
          have HIZ := Lib.hid HO.out.I
          have HLZ := Lib.hid hlk0
          have HNZ := Lib.hid hlkn
          have HQ1 := Lib.hid hq1
          have HQ2 := Lib.hid hq2
          have HQ3 := Lib.hid hq3
          have HQ4 := Lib.hid HO.out.room
          have HQ5 := Lib.hid HO.out.used

          go_wp2_with fail
          rcases hcr with hbad | ⟨hb0, hev1, hev2⟩ | ⟨bn, hbn, hbn1, hbn2, hev1, hev2⟩
          · go_wp2_with fail
            refine (screate_bad (d := d) (C.sub HSZ.out) bz ez hbad HZ.out).mono ?_
            rintro e wc ⟨rfl, hHc⟩
            have hEc := (C.errs.sub HSZ.out) _ hHc.agr
            rw [hS19] at hEc
            have Hc := Lib.hid hHc
            have HEc := Lib.hid hEc
            clear hHc hEc

            have hq : bz < 0 ∨ (¬ bz < 0 ∧ 1099511627776 < bz) ∨ (¬ bz < 0 ∧ ¬ 1099511627776 < bz ∧ ez < 1) ∨ (¬ bz < 0 ∧ ¬ 1099511627776 < bz ∧ ¬ ez < 1 ∧ 1048576 < ez) := by omega
            clear hbad
            rcases hq with q1 | ⟨q1, q2⟩ | ⟨q1, q2, q3⟩ | ⟨q1, q2, q3, q4⟩
            · go_wp2_with fail
              rw [← ev_some (errAt W) 4]
              refine (is_any HEc.out (101 + 4) (.inr (by omega)) 105).mono ?_
              rintro e w20 ⟨rfl, hb20⟩
              have HB20 := Lib.hid ((Hc.out.below hb20 (Nat.le_refl _)).to_below (HST.out.trans HSZ.out))
              clear hb20
              go_wp2_with fail
              go_ret
              exact ⟨rfl, HB20.out⟩

            · go_wp2_with fail
              rw [← ev_some (errAt W) 4]
              refine (is_any HEc.out (101 + 4) (.inr (by omega)) 105).mono ?_
              rintro e w20 ⟨rfl, hb20⟩
              have HB20 := Lib.hid ((Hc.out.below hb20 (Nat.le_refl _)).to_below (HST.out.trans HSZ.out))
              clear hb20
              go_wp2_with fail
              go_ret
              exact ⟨rfl, HB20.out⟩

            · go_wp2_with fail
              rw [← ev_some (errAt W) 4]
              refine (is_any HEc.out (101 + 4) (.inr (by omega)) 105).mono ?_
              rintro e w20 ⟨rfl, hb20⟩
              have HB20 := Lib.hid ((Hc.out.below hb20 (Nat.le_refl _)).to_below (HST.out.trans HSZ.out))
              clear hb20
              go_wp2_with fail
              go_ret
              exact ⟨rfl, HB20.out⟩

            · go_wp2_with fail
              rw [← ev_some (errAt W) 4]
              refine (is_any HEc.out (101 + 4) (.inr (by omega)) 105).mono ?_
              rintro e w20 ⟨rfl, hb20⟩
              have HB20 := Lib.hid ((Hc.out.below hb20 (Nat.le_refl _)).to_below (HST.out.trans HSZ.out))
              clear hb20
              go_wp2_with fail
              go_ret
              exact ⟨rfl, HB20.out⟩

          · subst hb0
            obtain ⟨en2, rfl⟩ : ∃ n : Nat, ez = (n : Int) := ⟨ez.toNat, by omega⟩
            go_wp2_with fail
            refine (screate_there (C.sub HSZ.out) HDZ.out HIZ.out 0 (by decide) en2 (by omega) (by omega) fz HLZ.out (Hp.mid HZ.out)).mono ?_
            rintro e wc ⟨rfl, Ac, hHc⟩
            have hEc := (C.errs.sub HSZ.out) _ hHc.agr
            rw [hS19] at hEc
            have Hc := Lib.hid hHc
            have HEc := Lib.hid hEc
            clear hHc hEc

            go_wp2_with fail
            rw [← ev_some (errAt W) 7]
            refine (is_any HEc.out (101 + 7) (.inr (by omega)) 108).mono ?_
            rintro e w20 ⟨rfl, hb20⟩
            have HB20 := Lib.hid ((Hc.out.below hb20 (Nat.le_refl _)).to_below (HST.out.trans HSZ.out))
            clear hb20
            go_wp2_with fail
            go_ret
            exact ⟨rfl, HB20.out⟩

          · obtain ⟨en2, rfl⟩ : ∃ n : Nat, ez = (n : Int) := ⟨ez.toNat, by omega⟩
            subst hbn
            have hbn3 : ¬ bn = 0 := by omega
            go_wp2_with fail
            refine (screate_on (C.sub HSZ.out) HDZ.out HIZ.out bn (by omega) en2 (by omega) (by omega) (HNZ.out _ (fun e => hbn3 (segNm_inj bn 0 (by omega) (by omega) e))) (by have := HQ1.out; omega) (by have := HQ2.out; omega) (by have := HQ3.out; omega) HQ4.out HQ5.out (Hp.mid HZ.out)).mono ?_
            rintro e wc ⟨sc, Asc, Adc, Dc, rfl, hGc, -, hOc, -, -, -, -, -, -, hHc⟩
            have Hc := Lib.hid hHc
            have HGc := Lib.hid hGc
            have HOc := Lib.hid hOc
            have HEc : Hid (Sg.end_ ⟨d, segNm bn, bn, en2, [], 0⟩ = (bn : Int)) := rfl
            clear hHc hGc hOc
            go_wp2_with fail
            refine (end_any HGc.out HOc.out.W Hc.out).mono ?_
            rintro e w20 ⟨rfl, hH20⟩
            rw [HEc.out]
            have HB20 := Lib.hid (hH20.to_below (HST.out.trans HSZ.out))
            clear hH20
            go_wp2_with fail
            go_ret
            exact ⟨by simp [hbn3], HB20.out⟩

    · skip
      have HC0 : Hid (((c : Int) == 0) = false) := beq_eq_false_iff_ne.2 (by omega)
      have hcne : (c : Int) ≠ 0 := by omega
      go_wp2_with fail
      refine wp_region_hp (by kernel_rfl) (by decide) _ _ H4.out (fun i _ v => match i with | 0 => v = .int .i64 c | 1 => v = .bool false | 2 => v = .bool false | 3 => v = undef | 4 => v = undef | 5 => v = undef | 6 => v = undef | 7 => v = undef | 8 => v = undef | 9 => v = undef | 10 => v = undef | 11 => v = undef | 12 => v = undef | 13 => v = undef | 14 => v = .bool false | _ => True) (by intro i P P' v _ h; exact h) ?_ ?_
      · intro i o ho u wq Pq hsq hHq hp K hK
        rcases i with _ | _ | _ | _ | _ | _ | _ | _ | _ | _ | _ | _ | _ | _ | _ | i
        · cases ho
          simp only [frOf, Act.put, List.setIfInBounds_toArray, List.set_cons_zero, List.set_cons_succ, Nat.zero_add, Nat.reduceAdd] at hK ⊢
          go_simp
          exact hK _ wq Pq (Sub.refl _) hHq rfl
        · cases ho
          have h0 : u 0 = .int .i64 c := hp ⟨0, .data⟩ (by simp) rfl
          simp only [frOf, Act.put, List.setIfInBounds_toArray, List.set_cons_zero, List.set_cons_succ, Nat.zero_add, Nat.reduceAdd] at hK ⊢
          simp only [h0] at hK ⊢
          go_simp
          exact hK _ wq Pq (Sub.refl _) hHq (by simp [HC0.out])
        · cases ho
          have h1 : u 1 = .bool false := hp ⟨1, .data⟩ (by simp) rfl
          simp only [frOf, Act.put, List.setIfInBounds_toArray, List.set_cons_zero, List.set_cons_succ, Nat.zero_add, Nat.reduceAdd] at hK ⊢
          simp only [h1] at hK ⊢
          go_simp
          exact hK _ wq Pq (Sub.refl _) hHq rfl
        · cases ho
          have h2 : u 2 = .bool false := hp ⟨2, .guard⟩ (by simp) rfl
          simp only [frOf, Act.put, List.setIfInBounds_toArray, List.set_cons_zero, List.set_cons_succ, Nat.zero_add, Nat.reduceAdd] at hK ⊢
          simp only [h2]
          first | exact trivial | (go_simp; done) | (rw [if_neg (by decide)]; trivial) | (rw [if_neg (Bool.not_eq_true _ ▸ (by kernel_rfl))]; trivial)
        · cases ho
          have h3 : u 3 = undef := hp ⟨3, .data⟩ (by simp) rfl
          have h2 : u 2 = .bool false := hp ⟨2, .guard⟩ (by simp) rfl
          simp only [frOf, Act.put, List.setIfInBounds_toArray, List.set_cons_zero, List.set_cons_succ, Nat.zero_add, Nat.reduceAdd] at hK ⊢
          simp only [h3, h2]
          first | exact trivial | (go_simp; done) | (rw [if_neg (by decide)]; trivial) | (rw [if_neg (Bool.not_eq_true _ ▸ (by kernel_rfl))]; trivial)
        · cases ho
          have h2 : u 2 = .bool false := hp ⟨2, .guard⟩ (by simp) rfl
          simp only [frOf, Act.put, List.setIfInBounds_toArray, List.set_cons_zero, List.set_cons_succ, Nat.zero_add, Nat.reduceAdd] at hK ⊢
          simp only [h2]
          first | exact trivial | (go_simp; done) | (rw [if_neg (by decide)]; trivial) | (rw [if_neg (Bool.not_eq_true _ ▸ (by kernel_rfl))]; trivial)
        · cases ho
          have h5 : u 5 = undef := hp ⟨5, .data⟩ (by simp) rfl
          have h2 : u 2 = .bool false := hp ⟨2, .guard⟩ (by simp) rfl
          simp only [frOf, Act.put, List.setIfInBounds_toArray, List.set_cons_zero, List.set_cons_succ, Nat.zero_add, Nat.reduceAdd] at hK ⊢
          simp only [h5, h2]
          first | exact trivial | (go_simp; done) | (rw [if_neg (by decide)]; trivial) | (rw [if_neg (Bool.not_eq_true _ ▸ (by kernel_rfl))]; trivial)
        · cases ho
          have h4 : u 4 = undef := hp ⟨4, .data⟩ (by simp) rfl
          have h6 : u 6 = undef := hp ⟨6, .data⟩ (by simp) rfl
          have h2 : u 2 = .bool false := hp ⟨2, .guard⟩ (by simp) rfl
          simp only [frOf, Act.put, List.setIfInBounds_toArray, List.set_cons_zero, List.set_cons_succ, Nat.zero_add, Nat.reduceAdd] at hK ⊢
          simp only [h4, h6, h2]
          first | exact trivial | (go_simp; done) | (rw [if_neg (by decide)]; trivial) | (rw [if_neg (Bool.not_eq_true _ ▸ (by kernel_rfl))]; trivial)
        · cases ho
          have h7 : u 7 = undef := hp ⟨7, .data⟩ (by simp) rfl
          have h2 : u 2 = .bool false := hp ⟨2, .guard⟩ (by simp) rfl
          simp only [frOf, Act.put, List.setIfInBounds_toArray, List.set_cons_zero, List.set_cons_succ, Nat.zero_add, Nat.reduceAdd] at hK ⊢
          simp only [h7, h2]
          first | exact trivial | (go_simp; done) | (rw [if_neg (by decide)]; trivial) | (rw [if_neg (Bool.not_eq_true _ ▸ (by kernel_rfl))]; trivial)
        · cases ho
          have h8 : u 8 = undef := hp ⟨8, .guard⟩ (by simp) rfl
          simp only [frOf, Act.put, List.setIfInBounds_toArray, List.set_cons_zero, List.set_cons_succ, Nat.zero_add, Nat.reduceAdd] at hK ⊢
          simp only [h8]
          first | exact trivial | (go_simp; done) | (rw [if_neg (by decide)]; trivial) | (rw [if_neg (Bool.not_eq_true _ ▸ (by kernel_rfl))]; trivial)
        · cases ho
          have h9 : u 9 = undef := hp ⟨9, .data⟩ (by simp) rfl
          have h8 : u 8 = undef := hp ⟨8, .guard⟩ (by simp) rfl
          simp only [frOf, Act.put, List.setIfInBounds_toArray, List.set_cons_zero, List.set_cons_succ, Nat.zero_add, Nat.reduceAdd] at hK ⊢
          simp only [h9, h8]
          first | exact trivial | (go_simp; done) | (rw [if_neg (by decide)]; trivial) | (rw [if_neg (Bool.not_eq_true _ ▸ (by kernel_rfl))]; trivial)
        · cases ho
          have h8 : u 8 = undef := hp ⟨8, .guard⟩ (by simp) rfl
          simp only [frOf, Act.put, List.setIfInBounds_toArray, List.set_cons_zero, List.set_cons_succ, Nat.zero_add, Nat.reduceAdd] at hK ⊢
          simp only [h8]
          first | exact trivial | (go_simp; done) | (rw [if_neg (by decide)]; trivial) | (rw [if_neg (Bool.not_eq_true _ ▸ (by kernel_rfl))]; trivial)
        · cases ho
          have h10 : u 10 = undef := hp ⟨10, .data⟩ (by simp) rfl
          have h11 : u 11 = undef := hp ⟨11, .data⟩ (by simp) rfl
          have h8 : u 8 = undef := hp ⟨8, .guard⟩ (by simp) rfl
          simp only [frOf, Act.put, List.setIfInBounds_toArray, List.set_cons_zero, List.set_cons_succ, Nat.zero_add, Nat.reduceAdd] at hK ⊢
          simp only [h10, h11, h8]
          first | exact trivial | (go_simp; done) | (rw [if_neg (by decide)]; trivial) | (rw [if_neg (Bool.not_eq_true _ ▸ (by kernel_rfl))]; trivial)
        · cases ho
          have h8 : u 8 = undef := hp ⟨8, .data⟩ (by simp) rfl
          have h12 : u 12 = undef := hp ⟨12, .data⟩ (by simp) rfl
          have h2 : u 2 = .bool false := hp ⟨2, .guard⟩ (by simp) rfl
          simp only [frOf, Act.put, List.setIfInBounds_toArray, List.set_cons_zero, List.set_cons_succ, Nat.zero_add, Nat.reduceAdd] at hK ⊢
          simp only [h8, h12, h2]
          first | exact trivial | (go_simp; done) | (rw [if_neg (by decide)]; trivial) | (rw [if_neg (Bool.not_eq_true _ ▸ (by kernel_rfl))]; trivial)
        · cases ho
          have h2 : u 2 = .bool false := hp ⟨2, .data⟩ (by simp) rfl
          have h13 : u 13 = undef := hp ⟨13, .data⟩ (by simp) rfl
          simp only [frOf, Act.put, List.setIfInBounds_toArray, List.set_cons_zero, List.set_cons_succ, Nat.zero_add, Nat.reduceAdd] at hK ⊢
          simp only [h2, h13] at hK ⊢
          go_simp
          exact hK _ wq Pq (Sub.refl _) hHq rfl
        · exact absurd ho (by simp)
      · intro u wq Pq hsq hHq hR
        have h14 : u 14 = .bool false := hR 14 (by decide)
        simp only [frOf, List.setIfInBounds_toArray, List.set_cons_zero, List.set_cons_succ, Nat.zero_add, Nat.reduceAdd]
        simp only [h14]
        have H5 := Lib.hid (hHq.weaken hsq)
        obtain ⟨k0, k1, k2⟩ := H5.out.use HBX4.out
        clear hR hHq hsq h14
        go_wp2_with fail
        refine (sappend_invalid (C.sub HS4.out) x (by omega) (by rw [HC.out]; exact hc0) _ (HVP.out.sub HS4.out) H5.out).mono ?_
        rintro e w6 ⟨rfl, hH6⟩
        rw [HC.out]
        have HY := Lib.hid hH6
        have HSY := HS4
        have HGY := HG
        have HOY := HO
        have HDY := HD4
        obtain ⟨ec, hec⟩ : ∃ v, ev (errAt W) c = v := ⟨_, rfl⟩
        rw [hec]
        have HEC := Lib.hid hec
        clear hH6 k0 k1 k2 hec
        have hEy := (C.errs.sub HSY.out) _ HY.out.agr
        rw [hS19] at hEy
        have HEY := Lib.hid hEy
        clear hEy
        go_wp2_with fail
        refine (sraw_on (C.sub HSY.out) HGY.out HOY.out HDY.out HY.out).mono ?_
        rintro e w8 ⟨v8, P8, rfl, hs8, hp8, hH8⟩
        obtain ⟨va8, vc8, rfl, -⟩ := (hH8.use hp8).shape
        obtain ⟨fl8, hfl8⟩ : ∃ f, (flatB (⟨d, segNm 0, 0, 100, L, 0⟩ : Sg).l).length = f := ⟨_, rfl⟩
        rw [hfl8] at hp8 ⊢
        have H8 := Lib.hid hH8
        have HP8 := Lib.hid hp8
        have HS8 := Lib.hid hs8
        have HSZ := Lib.hid (HSY.out.trans hs8)
        have HDZ := Lib.hid (HDY.out.sub hs8)
        have hE8 := (C.errs.sub HSZ.out) _ hH8.agr
        rw [hS19] at hE8
        have HE8 := Lib.hid hE8
        have HFL8 := Lib.hid hfl8
        clear hH8 hp8 hs8 hE8 hfl8
        go_wp2_with fail

        have HS48 := HS8
        rw [← HEC.out]
        refine (is_any HE8.out (c) (HCR.out) (c : Int)).mono ?_
        rintro e w9 ⟨rfl, hb9⟩
        have H9 := Lib.hid (H8.out.below hb9 (Nat.le_refl _))
        clear hb9
        go_wp2_with fail

        refine (samebytes_ok _ _ (flatB L) _ (H9.out.use (HP4.out.sub HS48.out)) (H9.out.use HP8.out) (by rw [HFL.out]; omega)).mono ?_
        rintro e w10 ⟨rfl, hb10⟩
        have HZ := Lib.hid (H9.out.below hb10 (Nat.le_refl _))
        clear hb10
        have HIZ := Lib.hid HO.out.I
        have HLZ := Lib.hid hlk0
        have HNZ := Lib.hid hlkn
        have HQ1 := Lib.hid hq1
        have HQ2 := Lib.hid hq2
        have HQ3 := Lib.hid hq3
        have HQ4 := Lib.hid HO.out.room
        have HQ5 := Lib.hid HO.out.used

        go_wp2_with fail
        rcases hcr with hbad | ⟨hb0, hev1, hev2⟩ | ⟨bn, hbn, hbn1, hbn2, hev1, hev2⟩
        · go_wp2_with fail
          refine (screate_bad (d := d) (C.sub HSZ.out) bz ez hbad HZ.out).mono ?_
          rintro e wc ⟨rfl, hHc⟩
          have hEc := (C.errs.sub HSZ.out) _ hHc.agr
          rw [hS19] at hEc
          have Hc := Lib.hid hHc
          have HEc := Lib.hid hEc
          clear hHc hEc

          have hq : bz < 0 ∨ (¬ bz < 0 ∧ 1099511627776 < bz) ∨ (¬ bz < 0 ∧ ¬ 1099511627776 < bz ∧ ez < 1) ∨ (¬ bz < 0 ∧ ¬ 1099511627776 < bz ∧ ¬ ez < 1 ∧ 1048576 < ez) := by omega
          clear hbad
          rcases hq with q1 | ⟨q1, q2⟩ | ⟨q1, q2, q3⟩ | ⟨q1, q2, q3, q4⟩
          · go_wp2_with fail
            rw [← ev_some (errAt W) 4]
            refine (is_any HEc.out (101 + 4) (.inr (by omega)) 105).mono ?_
            rintro e w20 ⟨rfl, hb20⟩
            have HB20 := Lib.hid ((Hc.out.below hb20 (Nat.le_refl _)).to_below (HST.out.trans HSZ.out))
            clear hb20
            go_wp2_with fail
            go_ret
            exact ⟨rfl, HB20.out⟩

          · go_wp2_with fail
            rw [← ev_some (errAt W) 4]
            refine (is_any HEc.out (101 + 4) (.inr (by omega)) 105).mono ?_
            rintro e w20 ⟨rfl, hb20⟩
            have HB20 := Lib.hid ((Hc.out.below hb20 (Nat.le_refl _)).to_below (HST.out.trans HSZ.out))
            clear hb20
            go_wp2_with fail
            go_ret
            exact ⟨rfl, HB20.out⟩

          · go_wp2_with fail
            rw [← ev_some (errAt W) 4]
            refine (is_any HEc.out (101 + 4) (.inr (by omega)) 105).mono ?_
            rintro e w20 ⟨rfl, hb20⟩
            have HB20 := Lib.hid ((Hc.out.below hb20 (Nat.le_refl _)).to_below (HST.out.trans HSZ.out))
            clear hb20
            go_wp2_with fail
            go_ret
            exact ⟨rfl, HB20.out⟩

          · go_wp2_with fail
            rw [← ev_some (errAt W) 4]
            refine (is_any HEc.out (101 + 4) (.inr (by omega)) 105).mono ?_
            rintro e w20 ⟨rfl, hb20⟩
            have HB20 := Lib.hid ((Hc.out.below hb20 (Nat.le_refl _)).to_below (HST.out.trans HSZ.out))
            clear hb20
            go_wp2_with fail
            go_ret
            exact ⟨rfl, HB20.out⟩

        · subst hb0
          obtain ⟨en2, rfl⟩ : ∃ n : Nat, ez = (n : Int) := ⟨ez.toNat, by omega⟩
          go_wp2_with fail
          refine (screate_there (C.sub HSZ.out) HDZ.out HIZ.out 0 (by decide) en2 (by omega) (by omega) fz HLZ.out (Hp.mid HZ.out)).mono ?_
          rintro e wc ⟨rfl, Ac, hHc⟩
          have hEc := (C.errs.sub HSZ.out) _ hHc.agr
          rw [hS19] at hEc
          have Hc := Lib.hid hHc
          have HEc := Lib.hid hEc
          clear hHc hEc

          go_wp2_with fail
          rw [← ev_some (errAt W) 7]
          refine (is_any HEc.out (101 + 7) (.inr (by omega)) 108).mono ?_
          rintro e w20 ⟨rfl, hb20⟩
          have HB20 := Lib.hid ((Hc.out.below hb20 (Nat.le_refl _)).to_below (HST.out.trans HSZ.out))
          clear hb20
          go_wp2_with fail
          go_ret
          exact ⟨rfl, HB20.out⟩

        · obtain ⟨en2, rfl⟩ : ∃ n : Nat, ez = (n : Int) := ⟨ez.toNat, by omega⟩
          subst hbn
          have hbn3 : ¬ bn = 0 := by omega
          go_wp2_with fail
          refine (screate_on (C.sub HSZ.out) HDZ.out HIZ.out bn (by omega) en2 (by omega) (by omega) (HNZ.out _ (fun e => hbn3 (segNm_inj bn 0 (by omega) (by omega) e))) (by have := HQ1.out; omega) (by have := HQ2.out; omega) (by have := HQ3.out; omega) HQ4.out HQ5.out (Hp.mid HZ.out)).mono ?_
          rintro e wc ⟨sc, Asc, Adc, Dc, rfl, hGc, -, hOc, -, -, -, -, -, -, hHc⟩
          have Hc := Lib.hid hHc
          have HGc := Lib.hid hGc
          have HOc := Lib.hid hOc
          have HEc : Hid (Sg.end_ ⟨d, segNm bn, bn, en2, [], 0⟩ = (bn : Int)) := rfl
          clear hHc hGc hOc
          go_wp2_with fail
          refine (end_any HGc.out HOc.out.W Hc.out).mono ?_
          rintro e w20 ⟨rfl, hH20⟩
          rw [HEc.out]
          have HB20 := Lib.hid (hH20.to_below (HST.out.trans HSZ.out))
          clear hH20
          go_wp2_with fail
          go_ret
          exact ⟨by simp [hbn3], HB20.out⟩

end Go.Proofs.YtlkkagjpapjehaaGreatDoor.Sg

/-! SegRefusesRow -/
namespace Go.Proofs.YtlkkagjpapjehaaGreatDoor.segRefuses
open Go.ChangeShapes Go.WideShapes Go.ChangeAt Go.RowKit
open Go.Proofs.YtlkkagjpapjehaaGreatDoor.Sg
set_option linter.unusedVariables false

theorem own : ownKnob Tryz.prog.godebug = none := by kernel_rfl
theorem laidOut : laidOutB Tryz.prog = true := by kernel_rfl

theorem door_met (os : Os) (args : Array Value) : laidMetH Tryz.prog Rows.segRefusesRow.laid ((World.doorLaid Tryz.prog 400 os).forCall (fun _ _ => 0) ⟨#[], args, []⟩).memory :=
  laidMetH_of_parts3 (fuel := 8) (laidMet_of_run' 8 (by kernel_rfl) (by kernel_rfl)) (by kernel_rfl) (by kernel_rfl)

theorem reads (os : Os) {H : Type} (enc : TypeId × Value → H) : ∃ places, DataW.whole enc Tryz.prog ((World.doorLaid Tryz.prog 400 os).forCall (fun _ _ => 0) ⟨#[], #[.slice none 0 0, .agg #[.int .i64 0, .int .i64 0, .slice none 0 0], .int .i64 0, .int .i64 0], []⟩).memory Tryz.f4.params.toList Rows.segRefusesSpec.vars false (#[.slice none 0 0, .agg #[.int .i64 0, .int .i64 0, .slice none 0 0], .int .i64 0, .int .i64 0] : Array Value).toList 8 = some ([.nil, .agg [.lit (.int .i64 0), .lit (.int .i64 0), .nil], .lit (.int .i64 0), .lit (.int .i64 0)], [], places) :=
  ⟨[], by kernel_rfl⟩

set_option maxRecDepth 100000 in
theorem contract (H : Type) (enc : TypeId × Value → H) (W : World) (base : Nat) (args : Array Value) (ds gs : List (DataW H)) (before : List MemPlace)
    (hval0 : ∀ (j : Nat) t v, Tryz.f4.params[j]? = some t → args[j]? = some v → Value.okWide Tryz.prog W .any base t v)
    (hW : DataW.Whole enc Tryz.prog Tryz.f4.params.toList Rows.segRefusesSpec.vars false W args.toList ds gs before) (hL : laidMetH Tryz.prog Rows.segRefusesRow.laid W) (hsh : W.ShapedOpen Tryz.prog) :
    Calls Tryz.prog 4 args W fun e W' => ∃ v, e = .returned v ∧ Rows.segRefusesSpec.post enc Tryz.prog Tryz.f4 false true false false W args v W' := by
  have hval : ∀ (j : Nat) t v, Tryz.f4.params[j]? = some t → args[j]? = some v → Value.okWide Tryz.prog W .any base t v := hval0
  have hW' := hW
  obtain ⟨p, q, hA0, hV, rfl, hfz, hnd⟩ := hW
  have hA : DataW.TrodAll enc Tryz.prog W 0 (fun _ => true) true Tryz.f4.params.toList args.toList ds p := hA0
  rw [Tryz.params4] at hA hval
  obtain ⟨v0, vs0, d0, ds0, p0, q0, hargs, rfl, rfl, h0, r0⟩ := trodAll_cons hA
  obtain ⟨v1, vs1, d1, ds1, p1, q1, rfl, rfl, rfl, h1, r1⟩ := trodAll_cons r0
  obtain ⟨v2, vs2, d2, ds2, p2, q2, rfl, rfl, rfl, h2, r2⟩ := trodAll_cons r1
  obtain ⟨v3, vs3, d3, ds3, p3, q3, rfl, rfl, rfl, h3, r3⟩ := trodAll_cons r2
  obtain ⟨rfl, rfl, rfl⟩ := trodAll_nil r3
  obtain rfl : args = #[v0, v1, v2, v3] := by cases args; simp_all
  obtain ⟨rfl, rfl⟩ := trodVars_none hV
  obtain ⟨a0, len0, cap0, rfl⟩ := okWide_slice Tryz.underlying22 (hval 0 22 v0 rfl rfl)
  have k0 := h0
  have lt0 : ∀ x ∈ p0, x.block < W.heap.size := by obtain ⟨m, hm⟩ := k0; exact DataW.trod_lt m _ _ _ hm
  obtain ⟨z0, w0⟩ : ∃ zs, IsRow W a0 len0 cap0 zs := by
    obtain ⟨fuel, hf⟩ := h0
    rcases open_ints Tryz.underlying22 Tryz.underlying3 (by kernel_rfl) hf with ⟨hcs, _⟩ | ⟨x, l, c, zs, hcs, _, hl, hm, hz, _, hcell, hwz⟩
    · simp [Value.cells] at hcs
      obtain ⟨rfl, rfl, rfl⟩ := hcs
      exact ⟨[], .inl ⟨rfl, rfl, rfl, rfl⟩⟩
    · simp [Value.cells] at hcs
      obtain ⟨rfl, rfl, rfl⟩ := hcs
      exact ⟨zs, .inr ⟨_, rfl, hl, hm, by simpa using hz, hcell, hwz⟩⟩
  have k1 := h1
  have lt1 : ∀ x ∈ p1, x.block < W.heap.size := by obtain ⟨m, hm⟩ := k1; exact DataW.trod_lt m _ _ _ hm
  obtain ⟨x1, w1, wb1⟩ := open_batch (hval 1 40 v1 rfl rfl) h1
  obtain ⟨a2, rfl, rfl, rfl, w2⟩ := open_int Tryz.underlying2 (hval 2 2 v2 rfl rfl) h2
  obtain ⟨a3, rfl, rfl, rfl, w3⟩ := open_int Tryz.underlying3 (hval 3 3 v3 rfl rfl) h3
  have hL0 := hL
  rw [MakeChecks.laidMetH_plain _ _ _ (by kernel_rfl)] at hL0
  obtain ⟨hT, hE⟩ := laid19 (W := W) hL0 (Er.gmax_le hsh)
  clear hA0 hval0
  refine (refuses_all a0 len0 cap0 z0 v1 x1 a2 a3 W w0 w1 wb1 l19_all rfl hE hT).mono fun e W' ⟨he, bel⟩ => ?_
  subst he
  exact ⟨_, rfl, _, _, _, [], _, [], hW', trodAll_mk1 (shut_bool Tryz.underlying4 _), (trodAll_cons_mk (Below.trod laidOut (by kernel_rfl) (of_decide_eq_true (by kernel_rfl)) k0 bel lt0) (trodAll_cons_mk (Below.trod laidOut (by kernel_rfl) (of_decide_eq_true (by kernel_rfl)) k1 bel lt1) (trodAll_cons_mk (shut_int Tryz.underlying2 w2) (trodAll_cons_mk (shut_int Tryz.underlying3 w3) trodAll_mk0)))), rfl, bel.frame _, fun h => by cases h⟩

set_option maxRecDepth 100000 in
theorem lifted (os : Os) (started : os.Started) (H : Type) (enc : TypeId × Value → H) (F : Stop.Interp) :
    ReturnsInHanded {} Tryz.checked os 4 .any ((OpenSpec.ofChange Rows.segRefusesSpec).preRow enc Tryz.prog Tryz.f4 Rows.segRefusesRow.domain false Rows.segRefusesRow.laid) (((OpenSpec.ofChange Rows.segRefusesSpec).at F).post enc Tryz.prog Tryz.f4 false true false false) := by
  obtain ⟨places, hx⟩ := reads os enc
  refine returnsInHanded_of_row (C := Tryz.checked) (s := OpenSpec.ofChange Rows.segRefusesSpec) own started (by kernel_rfl) Tryz.func4
    (witness_row_atRef (enc := enc) (C := Tryz.checked) false (World.doorLaid Tryz.prog 400 os) #[.slice none 0 0, .agg #[.int .i64 0, .int .i64 0, .slice none 0 0], .int .i64 0, .int .i64 0] rfl (by kernel_rfl) (by kernel_rfl) (by kernel_rfl)
      (OpenSpec.preRow_of_cond 8 hx (by kernel_rfl) (fun k hk => by cases hk) (by kernel_rfl) (door_met os _))) ?_
  intro W base args ds gs before hval hW _ _ _ hL hsh _
  exact contract H enc W base args ds gs before hval hW hL hsh

theorem said : Rows.SegRefusesSaid :=
  OpenClaim.holds_of_cond 4 Tryz.f4 rfl rfl rfl rfl rfl rfl rfl ⟨rfl, rfl, rfl, rfl, rfl⟩ rfl rfl rfl rfl rfl (by kernel_rfl) Tryz.func4 (by kernel_rfl)
    (of_decide_eq_true (by kernel_rfl)) (by unfold Func.isWrapper; rw [if_neg (of_decide_eq_false (by kernel_rfl))]; exact ⟨rfl, rfl⟩)
    (fun os started H enc _ F => by rw [OpenClaim.pre_eq_preRow]; exact lifted os started H enc F)

theorem plain (f : FuncId) (fn : Func) (hf : Tryz.pinned.checked.prog.funcNamed "cordwood/cordwoodlaw7.SegRefuses" = some f) (hfn : Tryz.pinned.checked.prog.funcs[f]? = some fn) :
    true = Tryz.pinned.checked.prog.looks [] ∧ ∀ (j : Nat) t, fn.params[j]? = some t → Tryz.pinned.checked.prog.wantsStandIn t = false := by
  obtain rfl : f = 4 := Option.some.inj ((show Tryz.prog.funcNamed "cordwood/cordwoodlaw7.SegRefuses" = some 4 by kernel_rfl).symm.trans hf) |>.symm
  obtain rfl : fn = Tryz.f4 := (Option.some.inj (Tryz.func4.symm.trans hfn)).symm
  refine ⟨by kernel_rfl, fun j t ht => ?_⟩
  rw [Tryz.params4] at ht
  have hm := Array.mem_of_getElem? ht
  have ht2 : t = 22 ∨ t = 40 ∨ t = 2 ∨ t = 3 := by simpa using hm
  rcases ht2 with rfl | rfl | rfl | rfl
  · exact (show Tryz.prog.wantsStandIn 22 = false by kernel_rfl)
  · exact (show Tryz.prog.wantsStandIn 40 = false by kernel_rfl)
  · exact (show Tryz.prog.wantsStandIn 2 = false by kernel_rfl)
  · exact (show Tryz.prog.wantsStandIn 3 = false by kernel_rfl)

/-- THE CARD -/
theorem card : Rows.SegRefusesCardSaid :=
  Claim7.holds_tied_plain_at .later [] _ _ _ _ said (fun _ h => by cases h) (by kernel_rfl) (fun _ h => by cases h) segRefuses_row_tie rfl ⟨rfl, rfl⟩ (by kernel_rfl) rfl plain (by kernel_rfl)
#print axioms card
end Go.Proofs.YtlkkagjpapjehaaGreatDoor.segRefuses
