/- cordwoodref1.Read of any bytes. cordwoodref1.All. disk.Append of nothing to an empty file. cordwoodref1.Segment. SegBytes. SegBytes: the law's walk. -/
import Derived.Test.YtncjffkpkmjgkaaGreatDoorMse
import Derived.Test.YtncjffkpkmjgkaaGreatDoorMsd
import Derived.Test.YtncjffkpkmjgkaaGreatDoorMe
import Derived.Test.YtncjffkpkmjgkaaGreatDoorMc
import Derived.Test.YtncjffkpkmjgkaaGreatDoorMg
import Derived.Test.YtncjffkpkmjgkaaGreatDoorMd
import Derived.Test.YtncjffkpkmjgkaaGreatDoorMf
import Derived.Laws.AppendOwnNone

/-! Up -/
namespace Go.Proofs.YtncjffkpkmjgkaaGreatDoor.Sg
open Go.RowKit Er Go.Maps

def Read1P (b0 : Nat) (N : List Nat) (xs : List Nat) (e : Ending) (w' : World) : Prop :=
  (∃ x rest rs, BtOk x ∧ BtBy x ∧ xs = batB x ++ rest ∧ e = .returned (.tuple #[.agg #[.int .i64 x.b, .int .i64 x.e, rs], .int .i64 ((batB x).length : Int), .int .i64 0]) ∧ RcO w' b0 rs x.r N) ∨
  (¬ HasB xs ∧ ∃ c : Int, c ≠ 0 ∧ e = .returned (.tuple #[.agg #[.int .i64 0, .int .i64 0, .slice none 0 0], .int .i64 0, .int .i64 c]))

theorem parsed {b0 : Nat} {N : List Nat} {o : Option Bt} {e : Ending} {w' : World} (h : ParseP b0 N o e w') : ∃ x rs, e = .returned (.agg #[.int .i64 x.b, .int .i64 x.e, rs]) ∧ RcO w' b0 rs x.r N ∧ x.r.length ≤ 65 ∧ BtBy x ∧ (o = some x ∨ (o = none ∧ vcode x ≠ 0)) := by
  cases o with
  | some x => obtain ⟨rs, h1, h2, h3, h4⟩ := h; exact ⟨x, rs, h1, h2, h3, h4, .inl rfl⟩
  | none => exact ⟨⟨0, 0, []⟩, _, h, RcO.nil _ _ _, Nat.zero_le _, (fun y hy => (by cases hy)), .inr ⟨rfl, by decide⟩⟩

theorem read1_plain {xs bd : List Nat} {n c : Nat} (hn : leV (xs.take 4) = n) (hc : leV ((xs.drop 4).take 4) = c) (hbd : (xs.drop 8).take n = bd) (h : HasB xs) :
    8 ≤ xs.length ∧ n ≤ 65536 ∧ n ≤ xs.length - 8 ∧ crcF 0 bd = c ∧ ∃ x, parseR bd = some x ∧ BtOk x ∧ BtBy x ∧ vcode x = 0 ∧ xs.take (8 + n) = batB x := by
  obtain ⟨x, rest, h1, h2, e⟩ := h
  obtain ⟨p1, p2, p3, p4, p5⟩ := hasB_parts h1 e
  have hl := bodyB_len x h1
  rw [p1] at hn
  subst hn
  rw [p3] at hbd
  subst hbd
  exact ⟨by omega, by omega, by omega, by rw [← hc, p2], x, parseR_ok x h1, h1, h2, h1.code, p5⟩

section
set_option maxRecDepth 100000 in
set_option maxHeartbeats 2000000 in
theorem read1_any (N : List Nat) (v : Value) (xs : List Nat) (w : World) (hN : ∀ k, k ∈ N → k < w.heap.size) (h : SlB w v xs) (hby : ∀ y ∈ xs, y < 256) (hxl : xs.length ≤ 1099511627776) :
    Calls Tryz.prog 52 #[v] w fun e w' => Read1P w.heap.size N xs e w' ∧ Below w.heap.size w w' := by
  obtain ⟨q, hq⟩ : ∃ q, xs.length = q := ⟨_, rfl⟩
  by_cases h8 : q < 8
  · have hno : ¬ HasB xs := fun hb => by have := (read1_plain rfl rfl rfl hb).1; omega
    obtain ⟨va, vc, rfl, -⟩ := h.shape
    rw [hq]
    have i1 : (q : Int) < 8 := by omega
    have HNO := Lib.hid hno
    have HB1 : Hid (Below (w.heap.size + 1) (w.alloc (.cells #[.int .i64 0, .int .i64 0, .slice none 0 0] 38)) (w.alloc (.cells #[.int .i64 0, .int .i64 0, .slice none 0 0] 38))) := Below.refl _ _
    clear h hno hby
    go_enter Tryz.func52, Tryz.ntmps52
    go_wp2_with fail
    exact bodyPost_ret (v := .tuple #[.agg #[.int .i64 0, .int .i64 0, .slice none 0 0], .int .i64 0, .int .i64 101]) (by simp [results, Tryz.results52, go_sem]) rfl ⟨.inr ⟨HNO.out, 101, by decide, rfl⟩, (Below.refl _ _).alloc (Nat.le_refl _) _⟩
  obtain ⟨g, off, cap, hv, hg, -⟩ := slB_cell h (k := 0) (by omega)
  subst hv
  obtain ⟨a0, cap0, hcc, hcap⟩ := h.shape
  cases hcc
  obtain ⟨y1, hy1⟩ : ∃ y, xs.take 4 = y := ⟨_, rfl⟩
  obtain ⟨y2, hy2⟩ : ∃ y, (xs.drop 4).take 4 = y := ⟨_, rfl⟩
  obtain ⟨n, hn⟩ : ∃ n, leV y1 = n := ⟨_, rfl⟩
  obtain ⟨c, hc⟩ : ∃ c, leV y2 = c := ⟨_, rfl⟩
  obtain ⟨bd, hbd⟩ : ∃ bd, (xs.drop 8).take n = bd := ⟨_, rfl⟩
  have l1 : y1.length = 4 := by rw [← hy1]; simp; omega
  have l2 : y2.length = 4 := by rw [← hy2]; simp; omega
  have b1 : ∀ y ∈ y1, y < 256 := fun y hy => hby y (by rw [← hy1] at hy; exact List.mem_of_mem_take hy)
  have b2 : ∀ y ∈ y2, y < 256 := fun y hy => hby y (by rw [← hy2] at hy; exact List.mem_of_mem_drop (List.mem_of_mem_take hy))
  have hn32 : n < 4294967296 := by have := leV_lt y1 b1; rw [l1] at this; omega
  have hc32 : c < 4294967296 := by have := leV_lt y2 b2; rw [l2] at this; omega
  have hbdb : ∀ y ∈ bd, y < 256 := fun y hy => hby y (by rw [← hbd] at hy; exact List.mem_of_mem_drop (List.mem_of_mem_take hy))
  have hno := fun hb => read1_plain (xs := xs) (n := n) (c := c) (bd := bd) (by rw [hy1]; exact hn) (by rw [hy2]; exact hc) hbd hb
  have hba : Below w.heap.size w (w.alloc (.cells #[.int .i64 0, .int .i64 0, .slice none 0 0] 38)) := (Below.refl _ _).alloc (Nat.le_refl _) _
  have s1 : SlB (w.alloc (.cells #[.int .i64 0, .int .i64 0, .slice none 0 0] 38)) (.slice (some ⟨g, off, none⟩) 4 cap) y1 := by
    have := (h.drop (p := 0) (by omega) (m := 4) (by omega) cap (by omega)).below hba rfl
    rwa [List.drop_zero, hy1, Nat.add_zero] at this
  have s2 : SlB (w.alloc (.cells #[.int .i64 0, .int .i64 0, .slice none 0 0] 38)) (.slice (some ⟨g, off + 4, none⟩) 4 (cap - 4)) y2 := by
    have := (h.drop (p := 4) (by omega) (m := 4) (by omega) (cap - 4) (by omega)).below hba rfl
    rwa [hy2] at this
  have s3 : n ≤ q - 8 → SlB (w.alloc (.cells #[.int .i64 0, .int .i64 0, .slice none 0 0] 38)) (.slice (some ⟨g, off + 8, none⟩) n (cap - 8)) bd := fun hn' => by
    have := (h.drop (p := 8) (by omega) (m := n) (by omega) (cap - 8) (by omega)).below hba rfl
    rwa [hbd] at this
  have s4 : n ≤ q - 8 → ∀ wz, Below (w.heap.size + 1) (w.alloc (.cells #[.int .i64 0, .int .i64 0, .slice none 0 0] 38)) wz → SlB wz (.slice (some ⟨g, off, none⟩) (8 + n) cap) (xs.take (8 + n)) := fun hn' wz hz => by
    have := (h.drop (p := 0) (by omega) (m := 8 + n) (by omega) cap (by omega)).below (below_box hz (Nat.le_refl _)) rfl
    rwa [List.drop_zero, Nat.add_zero] at this
  have hbl : n ≤ q - 8 → bd.length = n := fun h => by rw [← hbd]; simp; omega
  have HS1 := Lib.hid s1
  have HS2 := Lib.hid s2
  have HS3 := Lib.hid s3
  have HQQ := Lib.hid s4
  have HBL := Lib.hid hbl
  have HBDB := Lib.hid hbdb
  have HB1 := Lib.hid b1
  have HB2 := Lib.hid b2
  have HL1 := Lib.hid l1
  have HL2 := Lib.hid l2
  have HNV1 := Lib.hid hn
  have HCV := Lib.hid hc
  have HNO := Lib.hid hno
  have HNC : Hid (∀ k, k ∈ w.heap.size :: N → k < (w.alloc (.cells #[.int .i64 0, .int .i64 0, .slice none 0 0] 38)).heap.size) := fun k hk => by
    rcases List.mem_cons.1 hk with rfl | hk2
    · simp
    · have := hN k hk2; simp; omega
  have HQL := Lib.hid hq
  have HBA : Hid (Below (w.heap.size + 1) (w.alloc (.cells #[.int .i64 0, .int .i64 0, .slice none 0 0] 38)) (w.alloc (.cells #[.int .i64 0, .int .i64 0, .slice none 0 0] 38))) := Below.refl _ _
  rw [hq] at hcap hxl ⊢
  have i1 : ¬ (q : Int) < 8 := by omega
  have i2 : (8 : Int) ≤ (cap : Int) := by omega
  have i2' : (4 : Int) ≤ (cap : Int) := by omega
  have i3 : ¬ cap = 0 := by omega
  have i3' : ¬ cap = 4 := by omega
  clear h s1 s2 s3 s4 hn hc hy1 hy2 hbd hno hbdb hbl b1 b2 l1 l2 hq hby hba hN
  go_enter Tryz.func52, Tryz.ntmps52
  go_wp2_with fail
  refine (rfixed_any _ y1 _ HS1.out HB1.out (by rw [HL1.out]; omega)).mono ?_
  rintro e w' ⟨rfl, rfl⟩
  rw [HNV1.out]
  rcases (show 65536 < n ∨ (n ≤ 65536 ∧ q - 8 < n) ∨ (n ≤ 65536 ∧ n ≤ q - 8) by omega) with hk | ⟨hk1, hk2⟩ | ⟨hk1, hk2⟩
  · have i4 : (65536 : Int) < (n : Int) := by omega
    go_wp2_with fail
    exact bodyPost_ret (v := .tuple #[.agg #[.int .i64 0, .int .i64 0, .slice none 0 0], .int .i64 0, .int .i64 104]) (by simp [results, Tryz.results52, go_sem]) rfl ⟨.inr ⟨(fun hb => by have := (HNO.out hb).2.1; omega), 104, by decide, rfl⟩, (Below.refl _ _).alloc (Nat.le_refl _) _⟩
  · have i4 : ¬ (65536 : Int) < (n : Int) := by omega
    have i5 : ((q : Int) - 8) < (n : Int) := by omega
    go_wp2_with fail
    exact bodyPost_ret (v := .tuple #[.agg #[.int .i64 0, .int .i64 0, .slice none 0 0], .int .i64 0, .int .i64 101]) (by simp [results, Tryz.results52, go_sem]) rfl ⟨.inr ⟨(fun hb => by have := (HNO.out hb).2.2.1; rw [HQL.out] at this; omega), 101, by decide, rfl⟩, (Below.refl _ _).alloc (Nat.le_refl _) _⟩
  · have i4 : ¬ (65536 : Int) < (n : Int) := by omega
    have i5 : ¬ ((q : Int) - 8) < (n : Int) := by omega
    by_cases hc8 : cap = 8
    · have hn0 : n = 0 := by omega
      have hsi : SlB (w.alloc (.cells #[.int .i64 0, .int .i64 0, .slice none 0 0] 38)) (.slice (some ⟨g, off, none⟩) 0 0) bd := .inr (.inr ⟨_, 0, rfl, List.eq_nil_of_length_eq_zero (by rw [HBL.out hk2, hn0])⟩)
      have HSI := Lib.hid hsi
      clear hsi
      subst hn0 hc8
      obtain ⟨cc, hcc⟩ : ∃ c, crcF 0 bd = c := ⟨_, rfl⟩
      have hcc32 : cc < 4294967296 := by rw [← hcc]; exact crcF_lt 0 bd
      have HCC := Lib.hid hcc
      clear hcc
      go_wp2_with fail
      refine (rfixed_any _ y2 _ HS2.out HB2.out (by rw [HL2.out]; omega)).mono ?_
      rintro e w' ⟨rfl, rfl⟩
      rw [HCV.out]
      go_wp2_with fail
      refine (rsum_any (.slice (some ⟨g, off, none⟩) 0 0) bd _ HSI.out HBDB.out (by rw [HBL.out hk2]; omega)).mono ?_
      rintro e w' ⟨rfl, rfl⟩
      rw [HCC.out]
      by_cases hcq : cc = c
      case neg =>
        have hcq2 : ¬ (c : Int) = (cc : Int) := by omega
        go_wp2_with fail
        exact bodyPost_ret (v := .tuple #[.agg #[.int .i64 0, .int .i64 0, .slice none 0 0], .int .i64 0, .int .i64 102]) (by simp [results, Tryz.results52, go_sem]) rfl ⟨.inr ⟨(fun hb => hcq (by have := (HNO.out hb).2.2.2.1; rw [HCC.out] at this; exact this)), 102, by decide, rfl⟩, (Below.refl _ _).alloc (Nat.le_refl _) _⟩
      case pos =>
        subst hcq
        go_wp2_with fail
        refine (parse_any (w.heap.size :: N) (.slice (some ⟨g, off, none⟩) 0 0) bd _ HNC.out HSI.out (by rw [VR, HBL.out hk2]; exact ⟨g, _, _, rfl, by omega⟩) (fun b e => by cases e; simp; omega) HBDB.out (by rw [HBL.out hk2]; omega)).mono ?_
        rintro e w5 ⟨hpp, hb5⟩
        obtain ⟨x, rs, rfl, hro, hxl, hxb, hxo⟩ := parsed hpp
        obtain ⟨cs, hcs⟩ := hro
        obtain ⟨ua, uc, rfl⟩ := owns_shape hcs.1
        simp only [World.alloc_size'] at hcs hb5
        have hs5 := hb5.size
        simp only [World.alloc_size'] at hs5
        have hbt : BtV w5 (.agg #[.int .i64 x.b, .int .i64 x.e, .slice ua x.r.length uc]) x := ⟨_, rfl, RcO.read ⟨cs, hcs⟩⟩
        have HBT := Lib.hid (hbt.below ((Below.refl _ _).alloc (Nat.le_refl _) (.cells #[.int .i64 x.b, .int .i64 x.e, .slice ua x.r.length uc] 38)) rfl)
        have HB6 := Lib.hid (hb5.alloc hs5 (.cells #[.int .i64 x.b, .int .i64 x.e, .slice ua x.r.length uc] 38))
        have HS6 : Hid (w.heap.size + 1 ≤ (w5.alloc (.cells #[.int .i64 x.b, .int .i64 x.e, .slice ua x.r.length uc] 38)).heap.size) := by show _ ≤ _; simp; omega
        have HBB : Hid (∀ wz, Below (w5.alloc (.cells #[.int .i64 x.b, .int .i64 x.e, .slice ua x.r.length uc] 38)).heap.size (w5.alloc (.cells #[.int .i64 x.b, .int .i64 x.e, .slice ua x.r.length uc] 38)) wz → wz.cell? ⟨w5.heap.size, 0, none⟩ = some (.int .i64 x.b) ∧ wz.cell? ⟨w5.heap.size, 1, none⟩ = some (.int .i64 x.e) ∧ wz.cell? ⟨w5.heap.size, 2, none⟩ = some (.slice ua x.r.length uc)) := fun wz hz =>
          ⟨(hz.cell (p := ⟨w5.heap.size, 0, none⟩) (by simp)).trans (by go_simp), (hz.cell (p := ⟨w5.heap.size, 1, none⟩) (by simp)).trans (by go_simp), (hz.cell (p := ⟨w5.heap.size, 2, none⟩) (by simp)).trans (by go_simp)⟩
        have HCS := Lib.hid hcs
        have HXL := Lib.hid hxl
        have HXB := Lib.hid hxb
        have HXO := Lib.hid hxo
        have HB5 := Lib.hid hb5
        have HNV : Hid (vcode x ≠ 0 → ¬ HasB xs) := fun h hb => by
          obtain ⟨-, -, -, -, y, h1, -, -, h2, -⟩ := HNO.out hb
          rcases HXO.out with h3 | ⟨h3, -⟩
          · rw [h3] at h1; cases h1; exact h h2
          · rw [h3] at h1; cases h1
        clear hpp hcs hbt hxl hxb hxo hb5
        by_cases hvc : vcode x = 0
        case neg =>
          have HVC := Lib.hid hvc
          go_wp2_with fail
          refine wp_region_hp (by kernel_rfl) (by decide) _ _ (Hp.start _) (fun i _ v => match i with | 0 => v = .agg #[.int .i64 x.b, .int .i64 x.e, .slice ua x.r.length uc] | 1 => v = .int .i64 (vcode x) | 2 => v = .bool true | 3 => v = .bool true | 4 => v = undef | 5 => v = undef | 6 => v = undef | 7 => v = undef | 8 => v = undef | 9 => v = undef | 10 => v = undef | 11 => v = undef | 12 => v = .bool true | _ => True) (by intro i P P' v _ h; exact h) ?_ ?_
          · intro i o ho u wq Pq hsq hHq hp K hK
            rcases i with _ | _ | _ | _ | _ | _ | _ | _ | _ | _ | _ | _ | _ | i
            · cases ho
              simp only [frOf, Act.put, List.setIfInBounds_toArray, List.set_cons_zero, List.set_cons_succ, Nat.zero_add, Nat.reduceAdd] at hK ⊢
              have hbq := hHq.to_below hsq
              obtain ⟨b0, b1, b2⟩ := HBB.out _ hbq
              go_simp
              exact hK _ wq Pq (Sub.refl _) hHq rfl
            · cases ho
              have h0 : u 0 = .agg #[.int .i64 x.b, .int .i64 x.e, .slice ua x.r.length uc] := hp ⟨0, .data⟩ (by simp) rfl
              simp only [frOf, Act.put, List.setIfInBounds_toArray, List.set_cons_zero, List.set_cons_succ, Nat.zero_add, Nat.reduceAdd] at hK ⊢
              simp only [h0] at hK ⊢
              go_simp
              with_reducible refine (rvalid_any x (by have := HXL.out; omega) _ _ (HBT.out.below (hHq.to_below hsq) rfl)).mono ?_
              rintro e w9 ⟨rfl, hz⟩
              exact hK _ w9 Pq (Sub.refl _) (hHq.below hz (Nat.le_refl _)) rfl
            · cases ho
              have h1 : u 1 = .int .i64 (vcode x) := hp ⟨1, .data⟩ (by simp) rfl
              simp only [frOf, Act.put, List.setIfInBounds_toArray, List.set_cons_zero, List.set_cons_succ, Nat.zero_add, Nat.reduceAdd] at hK ⊢
              simp only [h1] at hK ⊢
              go_simp
              exact hK _ wq Pq (Sub.refl _) hHq (by simp [HVC.out])
            · cases ho
              have h2 : u 2 = .bool true := hp ⟨2, .data⟩ (by simp) rfl
              simp only [frOf, Act.put, List.setIfInBounds_toArray, List.set_cons_zero, List.set_cons_succ, Nat.zero_add, Nat.reduceAdd] at hK ⊢
              simp only [h2] at hK ⊢
              go_simp
              exact hK _ wq Pq (Sub.refl _) hHq rfl
            · cases ho
              have h3 : u 3 = .bool true := hp ⟨3, .guard⟩ (by simp) rfl
              simp only [frOf, Act.put, List.setIfInBounds_toArray, List.set_cons_zero, List.set_cons_succ, Nat.zero_add, Nat.reduceAdd] at hK ⊢
              simp only [h3]
              first | exact trivial | (go_simp; done) | (rw [if_neg (by decide)]; trivial) | (rw [if_neg (Bool.not_eq_true _ ▸ (by kernel_rfl))]; trivial)
            · cases ho
              have h4 : u 4 = undef := hp ⟨4, .data⟩ (by simp) rfl
              have h3 : u 3 = .bool true := hp ⟨3, .guard⟩ (by simp) rfl
              simp only [frOf, Act.put, List.setIfInBounds_toArray, List.set_cons_zero, List.set_cons_succ, Nat.zero_add, Nat.reduceAdd] at hK ⊢
              simp only [h4, h3]
              first | exact trivial | (go_simp; done) | (rw [if_neg (by decide)]; trivial) | (rw [if_neg (Bool.not_eq_true _ ▸ (by kernel_rfl))]; trivial)
            · cases ho
              have h3 : u 3 = .bool true := hp ⟨3, .guard⟩ (by simp) rfl
              simp only [frOf, Act.put, List.setIfInBounds_toArray, List.set_cons_zero, List.set_cons_succ, Nat.zero_add, Nat.reduceAdd] at hK ⊢
              simp only [h3]
              first | exact trivial | (go_simp; done) | (rw [if_neg (by decide)]; trivial) | (rw [if_neg (Bool.not_eq_true _ ▸ (by kernel_rfl))]; trivial)
            · cases ho
              have h3 : u 3 = .bool true := hp ⟨3, .guard⟩ (by simp) rfl
              simp only [frOf, Act.put, List.setIfInBounds_toArray, List.set_cons_zero, List.set_cons_succ, Nat.zero_add, Nat.reduceAdd] at hK ⊢
              simp only [h3]
              first | exact trivial | (go_simp; done) | (rw [if_neg (by decide)]; trivial) | (rw [if_neg (Bool.not_eq_true _ ▸ (by kernel_rfl))]; trivial)
            · cases ho
              have h7 : u 7 = undef := hp ⟨7, .data⟩ (by simp) rfl
              have h3 : u 3 = .bool true := hp ⟨3, .guard⟩ (by simp) rfl
              simp only [frOf, Act.put, List.setIfInBounds_toArray, List.set_cons_zero, List.set_cons_succ, Nat.zero_add, Nat.reduceAdd] at hK ⊢
              simp only [h7, h3]
              first | exact trivial | (go_simp; done) | (rw [if_neg (by decide)]; trivial) | (rw [if_neg (Bool.not_eq_true _ ▸ (by kernel_rfl))]; trivial)
            · cases ho
              have h6 : u 6 = undef := hp ⟨6, .data⟩ (by simp) rfl
              have h8 : u 8 = undef := hp ⟨8, .data⟩ (by simp) rfl
              have h3 : u 3 = .bool true := hp ⟨3, .guard⟩ (by simp) rfl
              simp only [frOf, Act.put, List.setIfInBounds_toArray, List.set_cons_zero, List.set_cons_succ, Nat.zero_add, Nat.reduceAdd] at hK ⊢
              simp only [h6, h8, h3]
              first | exact trivial | (go_simp; done) | (rw [if_neg (by decide)]; trivial) | (rw [if_neg (Bool.not_eq_true _ ▸ (by kernel_rfl))]; trivial)
            · cases ho
              have h5 : u 5 = undef := hp ⟨5, .data⟩ (by simp) rfl
              have h9 : u 9 = undef := hp ⟨9, .data⟩ (by simp) rfl
              have h3 : u 3 = .bool true := hp ⟨3, .guard⟩ (by simp) rfl
              simp only [frOf, Act.put, List.setIfInBounds_toArray, List.set_cons_zero, List.set_cons_succ, Nat.zero_add, Nat.reduceAdd] at hK ⊢
              simp only [h5, h9, h3]
              first | exact trivial | (go_simp; done) | (rw [if_neg (by decide)]; trivial) | (rw [if_neg (Bool.not_eq_true _ ▸ (by kernel_rfl))]; trivial)
            · cases ho
              have h10 : u 10 = undef := hp ⟨10, .data⟩ (by simp) rfl
              have h3 : u 3 = .bool true := hp ⟨3, .guard⟩ (by simp) rfl
              simp only [frOf, Act.put, List.setIfInBounds_toArray, List.set_cons_zero, List.set_cons_succ, Nat.zero_add, Nat.reduceAdd] at hK ⊢
              simp only [h10, h3]
              first | exact trivial | (go_simp; done) | (rw [if_neg (by decide)]; trivial) | (rw [if_neg (Bool.not_eq_true _ ▸ (by kernel_rfl))]; trivial)
            · cases ho
              have h3 : u 3 = .bool true := hp ⟨3, .data⟩ (by simp) rfl
              have h11 : u 11 = undef := hp ⟨11, .data⟩ (by simp) rfl
              simp only [frOf, Act.put, List.setIfInBounds_toArray, List.set_cons_zero, List.set_cons_succ, Nat.zero_add, Nat.reduceAdd] at hK ⊢
              simp only [h3, h11] at hK ⊢
              go_simp
              exact hK _ wq Pq (Sub.refl _) hHq rfl
            · exact absurd ho (by simp)
          · intro u wq Pq hsq hHq hR
            have h12 : u 12 = .bool true := hR 12 (by decide)
            simp only [frOf, List.setIfInBounds_toArray, List.set_cons_zero, List.set_cons_succ, Nat.zero_add, Nat.reduceAdd]
            simp only [h12]
            have HBQ := Lib.hid (HB6.out.trans ((hHq.to_below hsq).mono HS6.out))
            clear hR hHq hsq h12
            have hrow0 : (w.alloc (.cells #[.int .i64 0, .int .i64 0, .slice none 0 0] 38)).rowIs w.heap.size 38 3 (btF 0 0 (.slice none 0 0)) :=
              World.rowIs_alloc w #[.int .i64 0, .int .i64 0, .slice none 0 0] _ _ (fun i hi => by
                have hi' : i < 3 := hi
                rcases (show i = 0 ∨ i = 1 ∨ i = 2 by omega) with rfl | rfl | rfl <;> rfl)
            have hrowz := hrow0.of_block (Below.block HBQ.out w.heap.size (by omega))
            have e0 := hrowz.cell (i := 0) (by omega)
            have e1 := hrowz.cell (i := 1) (by omega)
            have e2 := hrowz.cell (i := 2) (by omega)
            have f0 := hrowz.frozen 0
            have f1 := hrowz.frozen 1
            have f2 := hrowz.frozen 2
            have hrF := ((hrowz.set 0 (.int .i64 0)).set 1 (.int .i64 0)).set 2 (.slice none 0 0)
            have huF : Upd [w.heap.size] wq (((wq.setCell ⟨w.heap.size, 0, none⟩ (.int .i64 0)).setCell ⟨w.heap.size, 1, none⟩ (.int .i64 0)).setCell ⟨w.heap.size, 2, none⟩ (.slice none 0 0)) :=
              (((Upd.refl _ _).setCell _ _ _ (.inl (by simp))).setCell _ _ _ (.inl (by simp))).setCell _ _ _ (.inl (by simp))
            have hbF : Below w.heap.size w (((wq.setCell ⟨w.heap.size, 0, none⟩ (.int .i64 0)).setCell ⟨w.heap.size, 1, none⟩ (.int .i64 0)).setCell ⟨w.heap.size, 2, none⟩ (.slice none 0 0)) := (below_box HBQ.out (Nat.le_refl _)).trans (huF.to_below (by have := Below.size HBQ.out; simp at this ⊢ <;> omega) (fun b hb => by simp at hb; omega))
            obtain ⟨wf, hwf⟩ : ∃ wf, (((wq.setCell ⟨w.heap.size, 0, none⟩ (.int .i64 0)).setCell ⟨w.heap.size, 1, none⟩ (.int .i64 0)).setCell ⟨w.heap.size, 2, none⟩ (.slice none 0 0)) = wf := ⟨_, rfl⟩
            rw [hwf] at hrF huF hbF
            have g0 : wf.cell? ⟨w.heap.size, 0, none⟩ = some (.int .i64 0) := hrF.cell (i := 0) (by omega)
            have g1 : wf.cell? ⟨w.heap.size, 1, none⟩ = some (.int .i64 0) := hrF.cell (i := 1) (by omega)
            have g2 : wf.cell? ⟨w.heap.size, 2, none⟩ = some (.slice none 0 0) := hrF.cell (i := 2) (by omega)
            have HBF := Lib.hid hbF
            have HUF := Lib.hid huF
            clear hrF huF hbF hrow0 hrowz
            go_wp2_with fail
            try rw [hwf]
            exact bodyPost_ret (v := .tuple #[.agg #[.int .i64 0, .int .i64 0, .slice none 0 0], .int .i64 0, .int .i64 103]) (by simp [results, Tryz.results52, go_sem, g0, g1, g2]) rfl ⟨.inr ⟨HNV.out hvc, 103, by decide, rfl⟩, HBF.out⟩
        case pos =>
          have hok := vcode_ok x hvc
          have HOK := Lib.hid hok
          have hps : parseR bd = some x := by rcases HXO.out with h | ⟨-, h⟩; exact h; exact absurd hvc h
          have HPS := Lib.hid hps
          have HQ2 := Lib.hid (HQQ.out hk2)
          clear hok hps
          obtain ⟨ib, hib⟩ : ∃ b, decide (batB x = xs.take 8) = b := ⟨_, rfl⟩
          have HIB := Lib.hid hib
          clear hib
          obtain ⟨b0, b1, b2⟩ := HBB.out _ (Below.refl _ _)
          have j1 : IntKind.i64.wrap 8 = 8 := by decide
          go_wp2_with fail
          go_region_held3 (fun w' => w'.cell? ⟨w5.heap.size, 0, none⟩ = some (.int .i64 x.b) ∧ w'.cell? ⟨w5.heap.size, 1, none⟩ = some (.int .i64 x.e) ∧ w'.cell? ⟨w5.heap.size, 2, none⟩ = some (.slice ua x.r.length uc))
            (first
              | go_keep
              | exact ⟨b0, b1, b2⟩)
            (first
              | (go_at_call 53
                 with_reducible refine (rvalid_any x (by have := HXL.out; omega) _ _ (HBT.out.below ((Below.refl _ _).drew) rfl)).mono ?_
                 rintro e w6 ⟨rfl, hz6⟩
                 rw [hvc]
                 have hy6 := ((Below.refl (w5.alloc (.cells #[.int .i64 x.b, .int .i64 x.e, .slice ua x.r.length uc] 38)).heap.size (w5.alloc (.cells #[.int .i64 x.b, .int .i64 x.e, .slice ua x.r.length uc] 38))).drew).trans hz6
                 obtain ⟨b0, b1, b2⟩ := HBB.out _ hy6)
              | (go_at_call 54
                 with_reducible refine (rbatch_any x HOK.out HXB.out _ _ (HBT.out.below hy6 rfl)).mono ?_
                 rintro e w7 ⟨⟨v7, rfl, ho7⟩, hz7⟩
                 have hy7 := hy6.trans (hz7.mono hy6.size)
                 obtain ⟨b0, b1, b2⟩ := HBB.out _ hy7)
              | (go_at_call 20
                 with_reducible refine (samebytes_dec _ _ (batB x) (xs.take 8) ib HIB.out _ (owns_read ho7).2 (HQ2.out _ (HB6.out.trans (hy7.mono HS6.out))) (by have := batB_len x; have := bodyB_len x HOK.out; omega)).mono ?_
                 rintro e w8 ⟨rfl, hz8⟩
                 have hy8 := hy7.trans (hz8.mono hy7.size)
                 obtain ⟨b0, b1, b2⟩ := HBB.out _ hy8))
          have HB8 := Lib.hid (HB6.out.trans (hy8.mono HS6.out))
          have HU8 : Hid (Upd [] w5 w8) := ((Upd.refl [] w5).alloc (.cells #[.int .i64 x.b, .int .i64 x.e, .slice ua x.r.length uc] 38)).trans (Upd.of_below hy8 (Nat.le_refl _))
          clear hy6 hy7 hy8 hz6 hz7 hz8 ho7
          cases ib with
          | false =>
            have hrow0 : (w.alloc (.cells #[.int .i64 0, .int .i64 0, .slice none 0 0] 38)).rowIs w.heap.size 38 3 (btF 0 0 (.slice none 0 0)) :=
              World.rowIs_alloc w #[.int .i64 0, .int .i64 0, .slice none 0 0] _ _ (fun i hi => by
                have hi' : i < 3 := hi
                rcases (show i = 0 ∨ i = 1 ∨ i = 2 by omega) with rfl | rfl | rfl <;> rfl)
            have hrowz := hrow0.of_block (Below.block HB8.out w.heap.size (by omega))
            have e0 := hrowz.cell (i := 0) (by omega)
            have e1 := hrowz.cell (i := 1) (by omega)
            have e2 := hrowz.cell (i := 2) (by omega)
            have f0 := hrowz.frozen 0
            have f1 := hrowz.frozen 1
            have f2 := hrowz.frozen 2
            have hrF := ((hrowz.set 0 (.int .i64 0)).set 1 (.int .i64 0)).set 2 (.slice none 0 0)
            have huF : Upd [w.heap.size] w8 (((w8.setCell ⟨w.heap.size, 0, none⟩ (.int .i64 0)).setCell ⟨w.heap.size, 1, none⟩ (.int .i64 0)).setCell ⟨w.heap.size, 2, none⟩ (.slice none 0 0)) :=
              (((Upd.refl _ _).setCell _ _ _ (.inl (by simp))).setCell _ _ _ (.inl (by simp))).setCell _ _ _ (.inl (by simp))
            have hbF : Below w.heap.size w (((w8.setCell ⟨w.heap.size, 0, none⟩ (.int .i64 0)).setCell ⟨w.heap.size, 1, none⟩ (.int .i64 0)).setCell ⟨w.heap.size, 2, none⟩ (.slice none 0 0)) := (below_box HB8.out (Nat.le_refl _)).trans (huF.to_below (by have := Below.size HB8.out; simp at this ⊢ <;> omega) (fun b hb => by simp at hb; omega))
            obtain ⟨wf, hwf⟩ : ∃ wf, (((w8.setCell ⟨w.heap.size, 0, none⟩ (.int .i64 0)).setCell ⟨w.heap.size, 1, none⟩ (.int .i64 0)).setCell ⟨w.heap.size, 2, none⟩ (.slice none 0 0)) = wf := ⟨_, rfl⟩
            rw [hwf] at hrF huF hbF
            have g0 : wf.cell? ⟨w.heap.size, 0, none⟩ = some (.int .i64 0) := hrF.cell (i := 0) (by omega)
            have g1 : wf.cell? ⟨w.heap.size, 1, none⟩ = some (.int .i64 0) := hrF.cell (i := 1) (by omega)
            have g2 : wf.cell? ⟨w.heap.size, 2, none⟩ = some (.slice none 0 0) := hrF.cell (i := 2) (by omega)
            have HBF := Lib.hid hbF
            have HUF := Lib.hid huF
            clear hrF huF hbF hrow0 hrowz
            go_wp2_with fail
            try rw [hwf]
            exact bodyPost_ret (v := .tuple #[.agg #[.int .i64 0, .int .i64 0, .slice none 0 0], .int .i64 0, .int .i64 103]) (by simp [results, Tryz.results52, go_sem, g0, g1, g2]) rfl ⟨.inr ⟨(fun hb => by obtain ⟨-, -, -, -, y, h1, -, -, -, h2⟩ := HNO.out hb; rw [HPS.out] at h1; cases h1; exact absurd h2.symm (of_decide_eq_false HIB.out)), 103, by decide, rfl⟩, HBF.out⟩
          | true =>
            have hrow0 : (w.alloc (.cells #[.int .i64 0, .int .i64 0, .slice none 0 0] 38)).rowIs w.heap.size 38 3 (btF 0 0 (.slice none 0 0)) :=
              World.rowIs_alloc w #[.int .i64 0, .int .i64 0, .slice none 0 0] _ _ (fun i hi => by
                have hi' : i < 3 := hi
                rcases (show i = 0 ∨ i = 1 ∨ i = 2 by omega) with rfl | rfl | rfl <;> rfl)
            have hrowz := hrow0.of_block (Below.block HB8.out w.heap.size (by omega))
            have e0 := hrowz.cell (i := 0) (by omega)
            have e1 := hrowz.cell (i := 1) (by omega)
            have e2 := hrowz.cell (i := 2) (by omega)
            have f0 := hrowz.frozen 0
            have f1 := hrowz.frozen 1
            have f2 := hrowz.frozen 2
            have hrF := ((hrowz.set 0 (.int .i64 x.b)).set 1 (.int .i64 x.e)).set 2 (.slice ua x.r.length uc)
            have huF : Upd [w.heap.size] w8 (((w8.setCell ⟨w.heap.size, 0, none⟩ (.int .i64 x.b)).setCell ⟨w.heap.size, 1, none⟩ (.int .i64 x.e)).setCell ⟨w.heap.size, 2, none⟩ (.slice ua x.r.length uc)) :=
              (((Upd.refl _ _).setCell _ _ _ (.inl (by simp))).setCell _ _ _ (.inl (by simp))).setCell _ _ _ (.inl (by simp))
            have hbF : Below w.heap.size w (((w8.setCell ⟨w.heap.size, 0, none⟩ (.int .i64 x.b)).setCell ⟨w.heap.size, 1, none⟩ (.int .i64 x.e)).setCell ⟨w.heap.size, 2, none⟩ (.slice ua x.r.length uc)) := (below_box HB8.out (Nat.le_refl _)).trans (huF.to_below (by have := Below.size HB8.out; simp at this ⊢ <;> omega) (fun b hb => by simp at hb; omega))
            obtain ⟨wf, hwf⟩ : ∃ wf, (((w8.setCell ⟨w.heap.size, 0, none⟩ (.int .i64 x.b)).setCell ⟨w.heap.size, 1, none⟩ (.int .i64 x.e)).setCell ⟨w.heap.size, 2, none⟩ (.slice ua x.r.length uc)) = wf := ⟨_, rfl⟩
            rw [hwf] at hrF huF hbF
            have g0 : wf.cell? ⟨w.heap.size, 0, none⟩ = some (.int .i64 x.b) := hrF.cell (i := 0) (by omega)
            have g1 : wf.cell? ⟨w.heap.size, 1, none⟩ = some (.int .i64 x.e) := hrF.cell (i := 1) (by omega)
            have g2 : wf.cell? ⟨w.heap.size, 2, none⟩ = some (.slice ua x.r.length uc) := hrF.cell (i := 2) (by omega)
            have HBF := Lib.hid hbF
            have HUF := Lib.hid huF
            clear hrF huF hbF hrow0 hrowz
            have heq : batB x = xs.take 8 := of_decide_eq_true HIB.out
            have hlen : ((batB x).length : Int) = 8 := by rw [heq, List.length_take, HQL.out]; omega
            have HEQ := Lib.hid heq
            have hroF : RcO wf w.heap.size (.slice ua x.r.length uc) x.r N :=
              RcO.sub ⟨cs, ((HCS.out.bound (by omega)).upd HU8.out (by simp)).upd HUF.out (fun b hb => .inl (by simp at hb; simp [hb]))⟩ (fun b hb => by simp [hb])
            have HROF := Lib.hid hroF
            clear hroF heq
            go_wp2_with fail
            try rw [hwf]
            exact bodyPost_ret (v := .tuple #[.agg #[.int .i64 x.b, .int .i64 x.e, .slice ua x.r.length uc], .int .i64 (8), .int .i64 0]) (by simp [results, Tryz.results52, go_sem, g0, g1, g2]) rfl ⟨.inl ⟨x, xs.drop 8, _, HOK.out, HXB.out, by rw [HEQ.out, List.take_append_drop], by rw [hlen], HROF.out⟩, HBF.out⟩
    · have hsi := HS3.out hk2
      have HSI := Lib.hid hsi
      clear hsi
      obtain ⟨cc, hcc⟩ : ∃ c, crcF 0 bd = c := ⟨_, rfl⟩
      have hcc32 : cc < 4294967296 := by rw [← hcc]; exact crcF_lt 0 bd
      have HCC := Lib.hid hcc
      clear hcc
      go_wp2_with fail
      refine (rfixed_any _ y2 _ HS2.out HB2.out (by rw [HL2.out]; omega)).mono ?_
      rintro e w' ⟨rfl, rfl⟩
      rw [HCV.out]
      go_wp2_with fail
      refine (rsum_any (.slice (some ⟨g, off + 8, none⟩) n (cap - 8)) bd _ HSI.out HBDB.out (by rw [HBL.out hk2]; omega)).mono ?_
      rintro e w' ⟨rfl, rfl⟩
      rw [HCC.out]
      by_cases hcq : cc = c
      case neg =>
        have hcq2 : ¬ (c : Int) = (cc : Int) := by omega
        go_wp2_with fail
        exact bodyPost_ret (v := .tuple #[.agg #[.int .i64 0, .int .i64 0, .slice none 0 0], .int .i64 0, .int .i64 102]) (by simp [results, Tryz.results52, go_sem]) rfl ⟨.inr ⟨(fun hb => hcq (by have := (HNO.out hb).2.2.2.1; rw [HCC.out] at this; exact this)), 102, by decide, rfl⟩, (Below.refl _ _).alloc (Nat.le_refl _) _⟩
      case pos =>
        subst hcq
        go_wp2_with fail
        refine (parse_any (w.heap.size :: N) (.slice (some ⟨g, off + 8, none⟩) n (cap - 8)) bd _ HNC.out HSI.out (by rw [VR, HBL.out hk2]; exact ⟨g, _, _, rfl, by omega⟩) (fun b e => by cases e; simp; omega) HBDB.out (by rw [HBL.out hk2]; omega)).mono ?_
        rintro e w5 ⟨hpp, hb5⟩
        obtain ⟨x, rs, rfl, hro, hxl, hxb, hxo⟩ := parsed hpp
        obtain ⟨cs, hcs⟩ := hro
        obtain ⟨ua, uc, rfl⟩ := owns_shape hcs.1
        simp only [World.alloc_size'] at hcs hb5
        have hs5 := hb5.size
        simp only [World.alloc_size'] at hs5
        have hbt : BtV w5 (.agg #[.int .i64 x.b, .int .i64 x.e, .slice ua x.r.length uc]) x := ⟨_, rfl, RcO.read ⟨cs, hcs⟩⟩
        have HBT := Lib.hid (hbt.below ((Below.refl _ _).alloc (Nat.le_refl _) (.cells #[.int .i64 x.b, .int .i64 x.e, .slice ua x.r.length uc] 38)) rfl)
        have HB6 := Lib.hid (hb5.alloc hs5 (.cells #[.int .i64 x.b, .int .i64 x.e, .slice ua x.r.length uc] 38))
        have HS6 : Hid (w.heap.size + 1 ≤ (w5.alloc (.cells #[.int .i64 x.b, .int .i64 x.e, .slice ua x.r.length uc] 38)).heap.size) := by show _ ≤ _; simp; omega
        have HBB : Hid (∀ wz, Below (w5.alloc (.cells #[.int .i64 x.b, .int .i64 x.e, .slice ua x.r.length uc] 38)).heap.size (w5.alloc (.cells #[.int .i64 x.b, .int .i64 x.e, .slice ua x.r.length uc] 38)) wz → wz.cell? ⟨w5.heap.size, 0, none⟩ = some (.int .i64 x.b) ∧ wz.cell? ⟨w5.heap.size, 1, none⟩ = some (.int .i64 x.e) ∧ wz.cell? ⟨w5.heap.size, 2, none⟩ = some (.slice ua x.r.length uc)) := fun wz hz =>
          ⟨(hz.cell (p := ⟨w5.heap.size, 0, none⟩) (by simp)).trans (by go_simp), (hz.cell (p := ⟨w5.heap.size, 1, none⟩) (by simp)).trans (by go_simp), (hz.cell (p := ⟨w5.heap.size, 2, none⟩) (by simp)).trans (by go_simp)⟩
        have HCS := Lib.hid hcs
        have HXL := Lib.hid hxl
        have HXB := Lib.hid hxb
        have HXO := Lib.hid hxo
        have HB5 := Lib.hid hb5
        have HNV : Hid (vcode x ≠ 0 → ¬ HasB xs) := fun h hb => by
          obtain ⟨-, -, -, -, y, h1, -, -, h2, -⟩ := HNO.out hb
          rcases HXO.out with h3 | ⟨h3, -⟩
          · rw [h3] at h1; cases h1; exact h h2
          · rw [h3] at h1; cases h1
        clear hpp hcs hbt hxl hxb hxo hb5
        by_cases hvc : vcode x = 0
        case neg =>
          have HVC := Lib.hid hvc
          go_wp2_with fail
          refine wp_region_hp (by kernel_rfl) (by decide) _ _ (Hp.start _) (fun i _ v => match i with | 0 => v = .agg #[.int .i64 x.b, .int .i64 x.e, .slice ua x.r.length uc] | 1 => v = .int .i64 (vcode x) | 2 => v = .bool true | 3 => v = .bool true | 4 => v = undef | 5 => v = undef | 6 => v = undef | 7 => v = undef | 8 => v = undef | 9 => v = undef | 10 => v = undef | 11 => v = undef | 12 => v = .bool true | _ => True) (by intro i P P' v _ h; exact h) ?_ ?_
          · intro i o ho u wq Pq hsq hHq hp K hK
            rcases i with _ | _ | _ | _ | _ | _ | _ | _ | _ | _ | _ | _ | _ | i
            · cases ho
              simp only [frOf, Act.put, List.setIfInBounds_toArray, List.set_cons_zero, List.set_cons_succ, Nat.zero_add, Nat.reduceAdd] at hK ⊢
              have hbq := hHq.to_below hsq
              obtain ⟨b0, b1, b2⟩ := HBB.out _ hbq
              go_simp
              exact hK _ wq Pq (Sub.refl _) hHq rfl
            · cases ho
              have h0 : u 0 = .agg #[.int .i64 x.b, .int .i64 x.e, .slice ua x.r.length uc] := hp ⟨0, .data⟩ (by simp) rfl
              simp only [frOf, Act.put, List.setIfInBounds_toArray, List.set_cons_zero, List.set_cons_succ, Nat.zero_add, Nat.reduceAdd] at hK ⊢
              simp only [h0] at hK ⊢
              go_simp
              with_reducible refine (rvalid_any x (by have := HXL.out; omega) _ _ (HBT.out.below (hHq.to_below hsq) rfl)).mono ?_
              rintro e w9 ⟨rfl, hz⟩
              exact hK _ w9 Pq (Sub.refl _) (hHq.below hz (Nat.le_refl _)) rfl
            · cases ho
              have h1 : u 1 = .int .i64 (vcode x) := hp ⟨1, .data⟩ (by simp) rfl
              simp only [frOf, Act.put, List.setIfInBounds_toArray, List.set_cons_zero, List.set_cons_succ, Nat.zero_add, Nat.reduceAdd] at hK ⊢
              simp only [h1] at hK ⊢
              go_simp
              exact hK _ wq Pq (Sub.refl _) hHq (by simp [HVC.out])
            · cases ho
              have h2 : u 2 = .bool true := hp ⟨2, .data⟩ (by simp) rfl
              simp only [frOf, Act.put, List.setIfInBounds_toArray, List.set_cons_zero, List.set_cons_succ, Nat.zero_add, Nat.reduceAdd] at hK ⊢
              simp only [h2] at hK ⊢
              go_simp
              exact hK _ wq Pq (Sub.refl _) hHq rfl
            · cases ho
              have h3 : u 3 = .bool true := hp ⟨3, .guard⟩ (by simp) rfl
              simp only [frOf, Act.put, List.setIfInBounds_toArray, List.set_cons_zero, List.set_cons_succ, Nat.zero_add, Nat.reduceAdd] at hK ⊢
              simp only [h3]
              first | exact trivial | (go_simp; done) | (rw [if_neg (by decide)]; trivial) | (rw [if_neg (Bool.not_eq_true _ ▸ (by kernel_rfl))]; trivial)
            · cases ho
              have h4 : u 4 = undef := hp ⟨4, .data⟩ (by simp) rfl
              have h3 : u 3 = .bool true := hp ⟨3, .guard⟩ (by simp) rfl
              simp only [frOf, Act.put, List.setIfInBounds_toArray, List.set_cons_zero, List.set_cons_succ, Nat.zero_add, Nat.reduceAdd] at hK ⊢
              simp only [h4, h3]
              first | exact trivial | (go_simp; done) | (rw [if_neg (by decide)]; trivial) | (rw [if_neg (Bool.not_eq_true _ ▸ (by kernel_rfl))]; trivial)
            · cases ho
              have h3 : u 3 = .bool true := hp ⟨3, .guard⟩ (by simp) rfl
              simp only [frOf, Act.put, List.setIfInBounds_toArray, List.set_cons_zero, List.set_cons_succ, Nat.zero_add, Nat.reduceAdd] at hK ⊢
              simp only [h3]
              first | exact trivial | (go_simp; done) | (rw [if_neg (by decide)]; trivial) | (rw [if_neg (Bool.not_eq_true _ ▸ (by kernel_rfl))]; trivial)
            · cases ho
              have h3 : u 3 = .bool true := hp ⟨3, .guard⟩ (by simp) rfl
              simp only [frOf, Act.put, List.setIfInBounds_toArray, List.set_cons_zero, List.set_cons_succ, Nat.zero_add, Nat.reduceAdd] at hK ⊢
              simp only [h3]
              first | exact trivial | (go_simp; done) | (rw [if_neg (by decide)]; trivial) | (rw [if_neg (Bool.not_eq_true _ ▸ (by kernel_rfl))]; trivial)
            · cases ho
              have h7 : u 7 = undef := hp ⟨7, .data⟩ (by simp) rfl
              have h3 : u 3 = .bool true := hp ⟨3, .guard⟩ (by simp) rfl
              simp only [frOf, Act.put, List.setIfInBounds_toArray, List.set_cons_zero, List.set_cons_succ, Nat.zero_add, Nat.reduceAdd] at hK ⊢
              simp only [h7, h3]
              first | exact trivial | (go_simp; done) | (rw [if_neg (by decide)]; trivial) | (rw [if_neg (Bool.not_eq_true _ ▸ (by kernel_rfl))]; trivial)
            · cases ho
              have h6 : u 6 = undef := hp ⟨6, .data⟩ (by simp) rfl
              have h8 : u 8 = undef := hp ⟨8, .data⟩ (by simp) rfl
              have h3 : u 3 = .bool true := hp ⟨3, .guard⟩ (by simp) rfl
              simp only [frOf, Act.put, List.setIfInBounds_toArray, List.set_cons_zero, List.set_cons_succ, Nat.zero_add, Nat.reduceAdd] at hK ⊢
              simp only [h6, h8, h3]
              first | exact trivial | (go_simp; done) | (rw [if_neg (by decide)]; trivial) | (rw [if_neg (Bool.not_eq_true _ ▸ (by kernel_rfl))]; trivial)
            · cases ho
              have h5 : u 5 = undef := hp ⟨5, .data⟩ (by simp) rfl
              have h9 : u 9 = undef := hp ⟨9, .data⟩ (by simp) rfl
              have h3 : u 3 = .bool true := hp ⟨3, .guard⟩ (by simp) rfl
              simp only [frOf, Act.put, List.setIfInBounds_toArray, List.set_cons_zero, List.set_cons_succ, Nat.zero_add, Nat.reduceAdd] at hK ⊢
              simp only [h5, h9, h3]
              first | exact trivial | (go_simp; done) | (rw [if_neg (by decide)]; trivial) | (rw [if_neg (Bool.not_eq_true _ ▸ (by kernel_rfl))]; trivial)
            · cases ho
              have h10 : u 10 = undef := hp ⟨10, .data⟩ (by simp) rfl
              have h3 : u 3 = .bool true := hp ⟨3, .guard⟩ (by simp) rfl
              simp only [frOf, Act.put, List.setIfInBounds_toArray, List.set_cons_zero, List.set_cons_succ, Nat.zero_add, Nat.reduceAdd] at hK ⊢
              simp only [h10, h3]
              first | exact trivial | (go_simp; done) | (rw [if_neg (by decide)]; trivial) | (rw [if_neg (Bool.not_eq_true _ ▸ (by kernel_rfl))]; trivial)
            · cases ho
              have h3 : u 3 = .bool true := hp ⟨3, .data⟩ (by simp) rfl
              have h11 : u 11 = undef := hp ⟨11, .data⟩ (by simp) rfl
              simp only [frOf, Act.put, List.setIfInBounds_toArray, List.set_cons_zero, List.set_cons_succ, Nat.zero_add, Nat.reduceAdd] at hK ⊢
              simp only [h3, h11] at hK ⊢
              go_simp
              exact hK _ wq Pq (Sub.refl _) hHq rfl
            · exact absurd ho (by simp)
          · intro u wq Pq hsq hHq hR
            have h12 : u 12 = .bool true := hR 12 (by decide)
            simp only [frOf, List.setIfInBounds_toArray, List.set_cons_zero, List.set_cons_succ, Nat.zero_add, Nat.reduceAdd]
            simp only [h12]
            have HBQ := Lib.hid (HB6.out.trans ((hHq.to_below hsq).mono HS6.out))
            clear hR hHq hsq h12
            have hrow0 : (w.alloc (.cells #[.int .i64 0, .int .i64 0, .slice none 0 0] 38)).rowIs w.heap.size 38 3 (btF 0 0 (.slice none 0 0)) :=
              World.rowIs_alloc w #[.int .i64 0, .int .i64 0, .slice none 0 0] _ _ (fun i hi => by
                have hi' : i < 3 := hi
                rcases (show i = 0 ∨ i = 1 ∨ i = 2 by omega) with rfl | rfl | rfl <;> rfl)
            have hrowz := hrow0.of_block (Below.block HBQ.out w.heap.size (by omega))
            have e0 := hrowz.cell (i := 0) (by omega)
            have e1 := hrowz.cell (i := 1) (by omega)
            have e2 := hrowz.cell (i := 2) (by omega)
            have f0 := hrowz.frozen 0
            have f1 := hrowz.frozen 1
            have f2 := hrowz.frozen 2
            have hrF := ((hrowz.set 0 (.int .i64 0)).set 1 (.int .i64 0)).set 2 (.slice none 0 0)
            have huF : Upd [w.heap.size] wq (((wq.setCell ⟨w.heap.size, 0, none⟩ (.int .i64 0)).setCell ⟨w.heap.size, 1, none⟩ (.int .i64 0)).setCell ⟨w.heap.size, 2, none⟩ (.slice none 0 0)) :=
              (((Upd.refl _ _).setCell _ _ _ (.inl (by simp))).setCell _ _ _ (.inl (by simp))).setCell _ _ _ (.inl (by simp))
            have hbF : Below w.heap.size w (((wq.setCell ⟨w.heap.size, 0, none⟩ (.int .i64 0)).setCell ⟨w.heap.size, 1, none⟩ (.int .i64 0)).setCell ⟨w.heap.size, 2, none⟩ (.slice none 0 0)) := (below_box HBQ.out (Nat.le_refl _)).trans (huF.to_below (by have := Below.size HBQ.out; simp at this ⊢ <;> omega) (fun b hb => by simp at hb; omega))
            obtain ⟨wf, hwf⟩ : ∃ wf, (((wq.setCell ⟨w.heap.size, 0, none⟩ (.int .i64 0)).setCell ⟨w.heap.size, 1, none⟩ (.int .i64 0)).setCell ⟨w.heap.size, 2, none⟩ (.slice none 0 0)) = wf := ⟨_, rfl⟩
            rw [hwf] at hrF huF hbF
            have g0 : wf.cell? ⟨w.heap.size, 0, none⟩ = some (.int .i64 0) := hrF.cell (i := 0) (by omega)
            have g1 : wf.cell? ⟨w.heap.size, 1, none⟩ = some (.int .i64 0) := hrF.cell (i := 1) (by omega)
            have g2 : wf.cell? ⟨w.heap.size, 2, none⟩ = some (.slice none 0 0) := hrF.cell (i := 2) (by omega)
            have HBF := Lib.hid hbF
            have HUF := Lib.hid huF
            clear hrF huF hbF hrow0 hrowz
            go_wp2_with fail
            try rw [hwf]
            exact bodyPost_ret (v := .tuple #[.agg #[.int .i64 0, .int .i64 0, .slice none 0 0], .int .i64 0, .int .i64 103]) (by simp [results, Tryz.results52, go_sem, g0, g1, g2]) rfl ⟨.inr ⟨HNV.out hvc, 103, by decide, rfl⟩, HBF.out⟩
        case pos =>
          have hok := vcode_ok x hvc
          have HOK := Lib.hid hok
          have hps : parseR bd = some x := by rcases HXO.out with h | ⟨-, h⟩; exact h; exact absurd hvc h
          have HPS := Lib.hid hps
          have HQ2 := Lib.hid (HQQ.out hk2)
          clear hok hps
          obtain ⟨ib, hib⟩ : ∃ b, decide (batB x = xs.take (8 + n)) = b := ⟨_, rfl⟩
          have HIB := Lib.hid hib
          clear hib
          obtain ⟨b0, b1, b2⟩ := HBB.out _ (Below.refl _ _)
          have j1 : IntKind.i64.wrap (8 + (n :Int)) = 8 + (n :Int) := by rw [IntKind.wrap_i64]; omega
          have j2 : (0 : Int) ≤ 8 + (n :Int) := by omega
          have j3 : 8 + (n :Int) ≤ (cap : Int) := by omega
          have j4 : (8 + (n :Int)).toNat = 8 + n := by omega
          go_wp2_with fail
          go_region_held3 (fun w' => w'.cell? ⟨w5.heap.size, 0, none⟩ = some (.int .i64 x.b) ∧ w'.cell? ⟨w5.heap.size, 1, none⟩ = some (.int .i64 x.e) ∧ w'.cell? ⟨w5.heap.size, 2, none⟩ = some (.slice ua x.r.length uc))
            (first
              | go_keep
              | exact ⟨b0, b1, b2⟩)
            (first
              | (go_at_call 53
                 with_reducible refine (rvalid_any x (by have := HXL.out; omega) _ _ (HBT.out.below ((Below.refl _ _).drew) rfl)).mono ?_
                 rintro e w6 ⟨rfl, hz6⟩
                 rw [hvc]
                 have hy6 := ((Below.refl (w5.alloc (.cells #[.int .i64 x.b, .int .i64 x.e, .slice ua x.r.length uc] 38)).heap.size (w5.alloc (.cells #[.int .i64 x.b, .int .i64 x.e, .slice ua x.r.length uc] 38))).drew).trans hz6
                 obtain ⟨b0, b1, b2⟩ := HBB.out _ hy6)
              | (go_at_call 54
                 with_reducible refine (rbatch_any x HOK.out HXB.out _ _ (HBT.out.below hy6 rfl)).mono ?_
                 rintro e w7 ⟨⟨v7, rfl, ho7⟩, hz7⟩
                 have hy7 := hy6.trans (hz7.mono hy6.size)
                 obtain ⟨b0, b1, b2⟩ := HBB.out _ hy7)
              | (go_at_call 20
                 with_reducible refine (samebytes_dec _ _ (batB x) (xs.take (8 + n)) ib HIB.out _ (owns_read ho7).2 (HQ2.out _ (HB6.out.trans (hy7.mono HS6.out))) (by have := batB_len x; have := bodyB_len x HOK.out; omega)).mono ?_
                 rintro e w8 ⟨rfl, hz8⟩
                 have hy8 := hy7.trans (hz8.mono hy7.size)
                 obtain ⟨b0, b1, b2⟩ := HBB.out _ hy8))
          have HB8 := Lib.hid (HB6.out.trans (hy8.mono HS6.out))
          have HU8 : Hid (Upd [] w5 w8) := ((Upd.refl [] w5).alloc (.cells #[.int .i64 x.b, .int .i64 x.e, .slice ua x.r.length uc] 38)).trans (Upd.of_below hy8 (Nat.le_refl _))
          clear hy6 hy7 hy8 hz6 hz7 hz8 ho7
          cases ib with
          | false =>
            have hrow0 : (w.alloc (.cells #[.int .i64 0, .int .i64 0, .slice none 0 0] 38)).rowIs w.heap.size 38 3 (btF 0 0 (.slice none 0 0)) :=
              World.rowIs_alloc w #[.int .i64 0, .int .i64 0, .slice none 0 0] _ _ (fun i hi => by
                have hi' : i < 3 := hi
                rcases (show i = 0 ∨ i = 1 ∨ i = 2 by omega) with rfl | rfl | rfl <;> rfl)
            have hrowz := hrow0.of_block (Below.block HB8.out w.heap.size (by omega))
            have e0 := hrowz.cell (i := 0) (by omega)
            have e1 := hrowz.cell (i := 1) (by omega)
            have e2 := hrowz.cell (i := 2) (by omega)
            have f0 := hrowz.frozen 0
            have f1 := hrowz.frozen 1
            have f2 := hrowz.frozen 2
            have hrF := ((hrowz.set 0 (.int .i64 0)).set 1 (.int .i64 0)).set 2 (.slice none 0 0)
            have huF : Upd [w.heap.size] w8 (((w8.setCell ⟨w.heap.size, 0, none⟩ (.int .i64 0)).setCell ⟨w.heap.size, 1, none⟩ (.int .i64 0)).setCell ⟨w.heap.size, 2, none⟩ (.slice none 0 0)) :=
              (((Upd.refl _ _).setCell _ _ _ (.inl (by simp))).setCell _ _ _ (.inl (by simp))).setCell _ _ _ (.inl (by simp))
            have hbF : Below w.heap.size w (((w8.setCell ⟨w.heap.size, 0, none⟩ (.int .i64 0)).setCell ⟨w.heap.size, 1, none⟩ (.int .i64 0)).setCell ⟨w.heap.size, 2, none⟩ (.slice none 0 0)) := (below_box HB8.out (Nat.le_refl _)).trans (huF.to_below (by have := Below.size HB8.out; simp at this ⊢ <;> omega) (fun b hb => by simp at hb; omega))
            obtain ⟨wf, hwf⟩ : ∃ wf, (((w8.setCell ⟨w.heap.size, 0, none⟩ (.int .i64 0)).setCell ⟨w.heap.size, 1, none⟩ (.int .i64 0)).setCell ⟨w.heap.size, 2, none⟩ (.slice none 0 0)) = wf := ⟨_, rfl⟩
            rw [hwf] at hrF huF hbF
            have g0 : wf.cell? ⟨w.heap.size, 0, none⟩ = some (.int .i64 0) := hrF.cell (i := 0) (by omega)
            have g1 : wf.cell? ⟨w.heap.size, 1, none⟩ = some (.int .i64 0) := hrF.cell (i := 1) (by omega)
            have g2 : wf.cell? ⟨w.heap.size, 2, none⟩ = some (.slice none 0 0) := hrF.cell (i := 2) (by omega)
            have HBF := Lib.hid hbF
            have HUF := Lib.hid huF
            clear hrF huF hbF hrow0 hrowz
            go_wp2_with fail
            try rw [hwf]
            exact bodyPost_ret (v := .tuple #[.agg #[.int .i64 0, .int .i64 0, .slice none 0 0], .int .i64 0, .int .i64 103]) (by simp [results, Tryz.results52, go_sem, g0, g1, g2]) rfl ⟨.inr ⟨(fun hb => by obtain ⟨-, -, -, -, y, h1, -, -, -, h2⟩ := HNO.out hb; rw [HPS.out] at h1; cases h1; exact absurd h2.symm (of_decide_eq_false HIB.out)), 103, by decide, rfl⟩, HBF.out⟩
          | true =>
            have hrow0 : (w.alloc (.cells #[.int .i64 0, .int .i64 0, .slice none 0 0] 38)).rowIs w.heap.size 38 3 (btF 0 0 (.slice none 0 0)) :=
              World.rowIs_alloc w #[.int .i64 0, .int .i64 0, .slice none 0 0] _ _ (fun i hi => by
                have hi' : i < 3 := hi
                rcases (show i = 0 ∨ i = 1 ∨ i = 2 by omega) with rfl | rfl | rfl <;> rfl)
            have hrowz := hrow0.of_block (Below.block HB8.out w.heap.size (by omega))
            have e0 := hrowz.cell (i := 0) (by omega)
            have e1 := hrowz.cell (i := 1) (by omega)
            have e2 := hrowz.cell (i := 2) (by omega)
            have f0 := hrowz.frozen 0
            have f1 := hrowz.frozen 1
            have f2 := hrowz.frozen 2
            have hrF := ((hrowz.set 0 (.int .i64 x.b)).set 1 (.int .i64 x.e)).set 2 (.slice ua x.r.length uc)
            have huF : Upd [w.heap.size] w8 (((w8.setCell ⟨w.heap.size, 0, none⟩ (.int .i64 x.b)).setCell ⟨w.heap.size, 1, none⟩ (.int .i64 x.e)).setCell ⟨w.heap.size, 2, none⟩ (.slice ua x.r.length uc)) :=
              (((Upd.refl _ _).setCell _ _ _ (.inl (by simp))).setCell _ _ _ (.inl (by simp))).setCell _ _ _ (.inl (by simp))
            have hbF : Below w.heap.size w (((w8.setCell ⟨w.heap.size, 0, none⟩ (.int .i64 x.b)).setCell ⟨w.heap.size, 1, none⟩ (.int .i64 x.e)).setCell ⟨w.heap.size, 2, none⟩ (.slice ua x.r.length uc)) := (below_box HB8.out (Nat.le_refl _)).trans (huF.to_below (by have := Below.size HB8.out; simp at this ⊢ <;> omega) (fun b hb => by simp at hb; omega))
            obtain ⟨wf, hwf⟩ : ∃ wf, (((w8.setCell ⟨w.heap.size, 0, none⟩ (.int .i64 x.b)).setCell ⟨w.heap.size, 1, none⟩ (.int .i64 x.e)).setCell ⟨w.heap.size, 2, none⟩ (.slice ua x.r.length uc)) = wf := ⟨_, rfl⟩
            rw [hwf] at hrF huF hbF
            have g0 : wf.cell? ⟨w.heap.size, 0, none⟩ = some (.int .i64 x.b) := hrF.cell (i := 0) (by omega)
            have g1 : wf.cell? ⟨w.heap.size, 1, none⟩ = some (.int .i64 x.e) := hrF.cell (i := 1) (by omega)
            have g2 : wf.cell? ⟨w.heap.size, 2, none⟩ = some (.slice ua x.r.length uc) := hrF.cell (i := 2) (by omega)
            have HBF := Lib.hid hbF
            have HUF := Lib.hid huF
            clear hrF huF hbF hrow0 hrowz
            have heq : batB x = xs.take (8 + n) := of_decide_eq_true HIB.out
            have hlen : ((batB x).length : Int) = 8 + (n : Int) := by rw [heq, List.length_take, HQL.out]; omega
            have HEQ := Lib.hid heq
            have hroF : RcO wf w.heap.size (.slice ua x.r.length uc) x.r N :=
              RcO.sub ⟨cs, ((HCS.out.bound (by omega)).upd HU8.out (by simp)).upd HUF.out (fun b hb => .inl (by simp at hb; simp [hb]))⟩ (fun b hb => by simp [hb])
            have HROF := Lib.hid hroF
            clear hroF heq
            go_wp2_with fail
            try rw [hwf]
            exact bodyPost_ret (v := .tuple #[.agg #[.int .i64 x.b, .int .i64 x.e, .slice ua x.r.length uc], .int .i64 (8 + (n : Int)), .int .i64 0]) (by simp [results, Tryz.results52, go_sem, g0, g1, g2]) rfl ⟨.inl ⟨x, xs.drop (8 + n), _, HOK.out, HXB.out, by rw [HEQ.out, List.take_append_drop], by rw [hlen], HROF.out⟩, HBF.out⟩
end
end Go.Proofs.YtncjffkpkmjgkaaGreatDoor.Sg

/-! Uq -/
namespace Go.Proofs.YtncjffkpkmjgkaaGreatDoor.Sg
open Go.RowKit Er Go.Maps

theorem batB_inj {x y : Bt} {a b : List Nat} (hx : BtOk x) (hy : BtOk y) (e : batB x ++ a = batB y ++ b) : x = y := by
  obtain ⟨p1, -, p3, -, -⟩ := hasB_parts hx (rfl : batB x ++ a = _)
  obtain ⟨q1, -, q3, -, -⟩ := hasB_parts hy e
  have hl : (bodyB x).length = (bodyB y).length := p1.symm.trans q1
  have h2 : bodyB x = bodyB y := by rw [← p3, ← q3, hl]
  have h3 := parseR_ok x hx
  rw [h2, parseR_ok y hy] at h3
  cases h3
  rfl

theorem read1_ok (x : Bt) (hxo : BtOk x) (hxb : BtBy x) (N : List Nat) (v : Value) (rest : List Nat) (w : World) (hN : ∀ k, k ∈ N → k < w.heap.size) (h : SlB w v (batB x ++ rest)) (hby : ∀ y ∈ batB x ++ rest, y < 256) (hl : (batB x ++ rest).length ≤ 1099511627776) :
    Calls Tryz.prog 52 #[v] w fun e w' => (∃ rs, e = .returned (.tuple #[.agg #[.int .i64 x.b, .int .i64 x.e, rs], .int .i64 ((batB x).length : Int), .int .i64 0]) ∧ RcO w' w.heap.size rs x.r N) ∧ Below w.heap.size w w' := by
  refine (read1_any N v _ w hN h hby hl).mono ?_
  rintro e w' ⟨h | h, hb⟩
  · obtain ⟨y, r2, rs, hyo, -, he, e1, hr⟩ := h
    obtain rfl := batB_inj hxo hyo he
    exact ⟨⟨rs, e1, hr⟩, hb⟩
  · exact absurd ⟨x, rest, hxo, hxb, rfl⟩ h.1
theorem read1_bad (N : List Nat) (v : Value) (xs : List Nat) (w : World) (hN : ∀ k, k ∈ N → k < w.heap.size) (hno : ¬ HasB xs) (h : SlB w v xs) (hby : ∀ y ∈ xs, y < 256) (hl : xs.length ≤ 1099511627776) :
    Calls Tryz.prog 52 #[v] w fun e w' => (∃ c : Int, c ≠ 0 ∧ e = .returned (.tuple #[.agg #[.int .i64 0, .int .i64 0, .slice none 0 0], .int .i64 0, .int .i64 c])) ∧ Below w.heap.size w w' := by
  refine (read1_any N v _ w hN h hby hl).mono ?_
  rintro e w' ⟨h | h, hb⟩
  · obtain ⟨y, r2, rs, hyo, hyb, he, -, -⟩ := h
    exact absurd ⟨y, r2, hyo, hyb, he⟩ hno
  · exact ⟨h.2, hb⟩

/-- What cordwoodref1.All comes to. -/
def All1Post (P : Pm) (F : Mm) (l : List Bt) (e : Ending) (w' : World) : Prop :=
  ∃ (v : Value) (c : Int) (out : List (Bt × Value)) (P' : Pm) (A : Mm), e = .returned (.tuple #[v, .int .i64 (sizes l), .int .i64 c]) ∧ Sub P P' ∧ BtsM P' v l out A ∧ Hp w' P' (A ++ F)

set_option maxRecDepth 100000 in
set_option maxHeartbeats 400000 in
theorem all1_ok {P : Pm} {F : Mm} {w : World} (l : List Bt) (t : List Nat) (hl : ∀ x, x ∈ l → BtOk x ∧ BtBy x) (ht : t = [] ∨ ¬ HasB t) (hby : ∀ y ∈ flatB l ++ t, y < 256) (v : Value)
    (hv : Pers P (fun w => SlB w v (flatB l ++ t))) (hlen : (flatB l ++ t).length ≤ 1099511627776) (hll : l.length ≤ 1000000) (hH : Hp w P F) :
    Calls Tryz.prog 13 #[v] w (All1Post P F l) := by
  obtain ⟨xs, hxs⟩ : ∃ xs, flatB l ++ t = xs := ⟨_, rfl⟩
  rw [hxs] at hv hlen hby
  obtain ⟨va, vc, rfl, hvc⟩ := (hH.use hv).shape
  have hxl : xs.length = sizes l + t.length := by rw [← hxs, List.length_append, flatB_len]
  have H0 := Lib.hid hH
  have HV := Lib.hid hv
  have HXS := Lib.hid hxs
  have HBY := Lib.hid hby
  have HT := Lib.hid ht
  have HL := Lib.hid hl
  obtain ⟨n, hn⟩ : ∃ n, xs.length = n := ⟨_, rfl⟩
  rw [hn] at hlen hxl hvc ⊢
  have HN := Lib.hid hn
  have hnl : sizes l ≤ n := by omega
  have HXL := Lib.hid hxl
  clear hH hv hxs ht hn hxl hl hby
  go_enter Tryz.func13, Tryz.ntmps13
  go_wp2_with fail
  go_loopg [5, 6] (l.length + 1) (fun m vo va wr => AllRel P F l m vo va wr)
  case atStart => exact ⟨0, [], P, [], by omega, rfl, by omega, Sub.refl P, BtsM.nil P, H0.out⟩
  case round =>
    obtain ⟨k, out, P1, A, hk, rfl, hkl, hs1, hbm, hHr⟩ := hrel
    obtain ⟨oa, oc, rfl⟩ := hbm.row.shape
    have hkt : (l.take k).length = k := by rw [List.length_take, Nat.min_eq_left hkl]
    rw [hkt]
    obtain ⟨p, hp⟩ : ∃ p, sizes (l.take k) = p := ⟨_, rfl⟩
    rw [hp]
    have hrow : RowM 38 3 (.slice oa k oc) k (btsV out) A := by
      have := hbm.row
      rw [hkt] at this; exact this
    by_cases hlt : k < l.length
    · obtain ⟨gj, rfl⟩ : ∃ x, gk = x + 1 := ⟨gk - 1, by omega⟩
      have hps := sizes_take l k hlt
      rw [hp] at hps
      have hpos := szB_pos l[k]
      have hdrop := flatB_take l k hlt t
      rw [HXS.out, hp] at hdrop
      obtain ⟨x, hx⟩ : ∃ x, l[k] = x := ⟨_, rfl⟩
      obtain ⟨hxo, hxb⟩ := HL.out x (by rw [← hx]; exact List.getElem_mem hlt)
      have htn := take_next l k hlt
      rw [hx] at hps hpos hdrop htn
      obtain ⟨g, off, cap, hvv, hg, -⟩ := slB_cell (hHr.use (HV.out.sub hs1)) (k := p) (by have := HN.out; omega)
      have hvn := HN.out
      simp only [Value.slice.injEq] at hvv
      obtain ⟨rfl, -, rfl⟩ := hvv
      have hsub : SlB wr (.slice (some ⟨g, off + p, none⟩) (n - p) (vc - p)) (batB x ++ (flatB (l.drop (k + 1)) ++ t)) := by
        have h1 := hHr.use (HV.out.sub hs1)
        rw [HN.out] at h1
        have h2 := h1.drop (p := p) (by omega) (m := n - p) (by omega) (vc - p) (by omega)
        rw [← hdrop]
        rw [List.take_of_length_le (by rw [List.length_drop]; omega)] at h2
        exact h2
      have hsl : (batB x ++ (flatB (l.drop (k + 1)) ++ t)).length ≤ 1099511627776 := by rw [← hdrop, List.length_drop]; omega
      have j1 : (p : Int) < (n : Int) := by omega
      have j2 : (0 : Int) ≤ (p : Int) := by omega
      have j3 : (p : Int) ≤ (n : Int) := by omega
      have j4 : (p : Int) ≤ (vc : Int) := by omega
      have j5 : ¬ vc = p := by omega
      have j6 : p ≤ n := by omega
      have hrow2 := Lib.hid hrow
      have HBM := Lib.hid hbm
      have HHr := Lib.hid hHr
      have HSB := Lib.hid hsub
      have HSL := Lib.hid hsl
      have HBS : Hid (∀ y ∈ batB x ++ (flatB (l.drop (k + 1)) ++ t), y < 256) := fun y hy => HBY.out y (List.mem_of_mem_drop (by rw [hdrop]; exact hy))
      have HTN := Lib.hid htn
      have HP := Lib.hid hp
      have HKT := Lib.hid hkt
      clear hrow hbm hHr hsub hsl htn hp hdrop hx hkt hvn
      go_wp2_with fail
      refine (read1_ok x hxo hxb (ids (A ++ F)) _ _ wr (HHr.out.ids_lt) HSB.out HBS.out HSL.out).mono ?_
      rintro e w1 ⟨⟨rs, rfl, hro⟩, hb1⟩
      obtain ⟨P2, hs2, hH3, hp3⟩ := Hp.sealRcs (HHr.out.below hb1 (Nat.le_refl _)) hro
      obtain ⟨ra, rc, rfl⟩ := (hH3.use hp3).plain.shape
      have hH4 := (hH3.alloc (.cells #[.int .i64 x.b, .int .i64 x.e, .slice ra x.r.length rc] 38)).tail
      have H4 := Lib.hid hH4
      have HP3 := Lib.hid hp3
      have HS2 := Lib.hid hs2
      rw [show (batB x).length = szB x from rfl]
      obtain ⟨sz, hsz⟩ : ∃ sz, szB x = sz := ⟨_, rfl⟩
      rw [hsz] at hps hpos ⊢
      have HSZ := Lib.hid hsz
      clear hb1 hro hH3 hp3 hH4 hs2 hsz
      go_wp2_with (at_builtin; refine wpList_push_hp rfl _ _ _ rfl 38 _ 3 40 Tryz.underlying33 infoBt rfl (by omega) (.slice oa k oc) k (btsV out) rfl H4.out hrow2.out #[.int .i64 x.b, .int .i64 x.e, .slice ra x.r.length rc] (by show Value.slice (some ⟨w1.heap.size + 1, 0, none⟩) 1 1 = _; rw [World.alloc_size']) rfl (by intro u hu; simp at hu; rcases hu with rfl | rfl | rfl <;> rfl) (by omega) (by omega) ?_)
      intro ga ca w7 A7 hr7 hH8
      have hrel7 : AllRel P F l gj (.slice (some ⟨ga, 0, none⟩) (k + 1) ca) (.int .i64 ((p : Int) + (sz : Int))) w7 := by
        refine ⟨k + 1, out ++ [(x, .slice ra x.r.length rc)], P2, A7, by omega, ?_, by omega, hs1.trans HS2.out, ?_, hH8⟩
        · rw [HTN.out, sizes_app, HP.out]
          simp [sizes, HSZ.out]
        · rw [HTN.out]
          refine ⟨by rw [List.map_append, HBM.out.map]; rfl, ?_, ?_⟩
          · rw [btsV_app, List.length_append, HKT.out]; exact hr7
          · intro w8 hw8 q hq
            rcases List.mem_append.1 hq with hq | hq
            · exact HBM.out.rs w8 (hw8.sub HS2.out) q hq
            · rw [List.mem_singleton.1 hq]
              exact (HP3.out w8 hw8).sub (fun k hk => by cases hk)
      have HR7 := Lib.hid hrel7
      clear hr7 hH8 hrel7
      go_wp2_with fail
      go_roundg gj
      case measure => omega
      case rel => exact HR7.out
    · obtain rfl : k = l.length := by omega
      have htl : l.take l.length = l := List.take_length
      rw [htl] at hp hbm
      have hdrop : xs.drop p = t := by
        have := HXS.out
        rw [← this, ← hp, ← flatB_len, List.drop_left]
      have hxl := HXL.out
      have HBM := Lib.hid hbm
      have HHr := Lib.hid hHr
      have HP := Lib.hid hp
      have HD := Lib.hid hdrop
      clear hbm hHr hp hdrop hkt hrow htl
      by_cases htz : t.length = 0
      · have k1 : ¬ (p : Int) < (n : Int) := by have := HP.out; omega
        have k2 : ¬ p < n := by have := HP.out; omega
        clear htz hxl
        go_wp2_with fail
        exact bodyPost_ret (v := .tuple #[.slice oa l.length oc, .int .i64 p, .int .i64 0]) (by simp [results, Tryz.results13, go_sem]) rfl ⟨_, 0, out, P1, A, by rw [HP.out], hs1, HBM.out, HHr.out⟩
      · have hbad : ¬ HasB t := by
          rcases HT.out with h | h
          · exact absurd (by rw [h]; rfl) htz
          · exact h
        have hpn : p < n := by have := HP.out; omega
        obtain ⟨g, off, cap, hvv, hg, -⟩ := slB_cell (HHr.out.use (HV.out.sub hs1)) (k := p) (by have := HN.out; omega)
        have hvn := HN.out
        simp only [Value.slice.injEq] at hvv
        obtain ⟨rfl, -, rfl⟩ := hvv
        have hsub : SlB wr (.slice (some ⟨g, off + p, none⟩) (n - p) (vc - p)) t := by
          have h1 := HHr.out.use (HV.out.sub hs1)
          rw [HN.out] at h1
          have h2 := h1.drop (p := p) (by omega) (m := n - p) (by omega) (vc - p) (by omega)
          rw [HD.out, List.take_of_length_le (by have := HP.out; omega)] at h2
          exact h2
        have j1 : (p : Int) < (n : Int) := by omega
        have j2 : (0 : Int) ≤ (p : Int) := by omega
        have j3 : (p : Int) ≤ (n : Int) := by omega
        have j4 : (p : Int) ≤ (vc : Int) := by omega
        have j5 : ¬ vc = p := by omega
        have j6 : p ≤ n := by omega
        have HSB := Lib.hid hsub
        have HBS : Hid (∀ y ∈ t, y < 256) := fun y hy => HBY.out y (List.mem_of_mem_drop (by rw [HD.out]; exact hy))
        have htl9 : t.length ≤ 1099511627776 := by omega
        clear hsub hvn htz hxl
        go_wp2_with fail
        refine (read1_bad (ids (A ++ F)) _ t wr (HHr.out.ids_lt) hbad HSB.out HBS.out htl9).mono ?_
        rintro e w1 ⟨⟨cd, hcd, rfl⟩, hb1⟩
        have hcd2 : ¬ cd = 0 := hcd
        have H2 := Lib.hid (HHr.out.below hb1 (Nat.le_refl _)).alloc
        clear hb1 hcd
        go_wp2_with fail
        exact bodyPost_ret (v := .tuple #[.slice oa l.length oc, .int .i64 p, .int .i64 cd]) (by simp [results, Tryz.results13, go_sem]) rfl ⟨_, _, out, P1, A, by rw [HP.out], hs1, HBM.out, (H2.out _).tail⟩

end Go.Proofs.YtncjffkpkmjgkaaGreatDoor.Sg

/-! Ur -/
namespace Go.Proofs.YtncjffkpkmjgkaaGreatDoor.Sg
open Go.RowKit Er Go.Maps

theorem run_append_zero {P : Program} {w : World} (t ty e : TypeId) (i : TypeInfo) (ht : P.underlying t = some (.slice e)) (hi : P.info? e = some i) (va ya : Option Addr) (yc : Nat) (hy : ya = none → yc = 0) :
    (Builtin.append_ #[t, t] ty #[.slice va 0 0, .slice ya 0 yc]).run P w = .ok (.slice va 0 0) w := by
  cases ya with
  | none =>
    obtain rfl := hy rfl
    cases va <;> simp [Builtin.append_, run_underlying ht, sizeOf, typeInfo, hi, Builtin.lenOf, Builtin.firstCells, storeCells, loadCells, loadCellsFrom]
  | some y => cases va <;> simp [Builtin.append_, run_underlying ht, sizeOf, typeInfo, hi, Builtin.lenOf, Builtin.firstCells, storeCells, loadCells, loadCellsFrom]
theorem wpList_append_zero {P : Program} {w : World} {ops : Array Oper} {rest : List Oper} {o : Oper} {a : Act} {Q : Exit → Act → World → Prop} (hgd : o.guard = none) (s x : Operand) (t : TypeId)
    (ho : o.op = .call { callee := .builtin .append, args := #[s, x], argTypes := #[t, t] }) (e : TypeId) (i : TypeInfo) (ht : P.underlying t = some (.slice e)) (hi : P.info? e = some i)
    (va ya : Option Addr) (yc : Nat) (hs : a.eval s = .slice va 0 0) (hx : a.eval x = .slice ya 0 yc) (hy : ya = none → yc = 0)
    (h : wpList P ops Q rest (a.put o.dst (.slice va 0 0)) w) : wpList P ops Q (o :: rest) a w := by
  refine wpList_plain hgd fun K hK => ?_
  have hrun := run_append_zero (P := P) (w := w) t o.type e i ht hi va ya yc hy
  unfold Oper.wp
  simp [execOp, ho, resolve, invoke, builtin, hs, hx, hrun, Result.andThen]
  exact hK _ _ h

section
variable {S : List Nat} {E : Nat → Addr} {B : Nat} {P : Pm} {d : Nat} {D : Dk} {A F : Mm} {w : World}

set_option maxRecDepth 100000 in
set_option maxHeartbeats 400000 in
theorem dappend_nil (C : Ctx S E B P) (hD : DkM P d D A) (hW : DkW D) (hH : Hp w P (A ++ F)) (s : Nam) (hs : s.length ≤ 1099511627776) (b : Nat) (h : D.find s = .ok b) (f : Fl) (hf : ffind D.fl b = some f) (hfe : f.b = []) (ya : Option Addr) (yc : Nat) (hya : ya = none → yc = 0)
    (hr : D.room ≤ 1099511627776) (hroom : D.used ≤ D.room) :
    Calls Tryz.prog 12 #[ptr d, str s, .slice ya 0 yc] w fun e w' => e = .returned .nilIface ∧ ∃ P' A', Sub P P' ∧ DkM P' d (D.app f []) A' ∧ Hp w' P' (A' ++ F) := by
  have hf' : ffind D.beg.fl b = some f := by rw [(beg_fl D).1]; exact hf
  have hcl : D.beg.calls = D.calls := (beg_fl D).2.2.2.2.2.2
  have hrm : D.beg.room = D.room := (beg_fl D).2.2.2.2.2.1
  have hus : D.beg.used = D.used := by unfold Dk.used; rw [(beg_fl D).1, (beg_fl D).2.1]
  have HF := Lib.hid hf'
  have HC := Lib.hid hcl
  have HR := Lib.hid hrm
  have HU := Lib.hid hus
  have hw1 : IntKind.i64.wrap ((D.room : Int) - (D.used : Int)) = (D.room : Int) - (D.used : Int) := IntWalk.i64_in _ (by omega)
  have hw2 : decide ((D.room : Int) - (D.used : Int) < (0 : Int)) = false := by simp; omega
  have HW1 := Lib.hid hw1
  clear hf hf' hcl hrm hus hw1
  go_enter Tryz.func12, Tryz.ntmps12
  go_wp2_with fail
  refine (find_ok C hD hH s hs b h).mono ?_
  rintro e w1 ⟨rfl, A1, hD1, hH1⟩
  obtain ⟨nb, kb, cv, v, A0, hv, hp, hback⟩ := hD1.file hH1.nd HF.out
  obtain ⟨-, hblk⟩ := ffind_mem HF.out
  subst hblk
  obtain ⟨va, vc, rfl, hvc⟩ := (hH1.use hv).shape
  have hH2 : Hp w1 P (((d, Obj.cells (dkCells D.beg nb kb cv) 82 (0, 0)) :: (f.blk, Obj.cells (fcells f (.slice va f.b.length vc)) 89 (0, 0)) :: A0) ++ F) := hH1.perm (hp.append_right F)
  have d0 : w1.cell? ⟨d, 0, none⟩ = some (.int .i64 D.room) := by rw [← HR.out]; exact (@Hp.cell _ _ _ hH2 d (dkCells D.beg nb kb cv) 82 (0, 0) (by simp)) rfl
  have hw1 := HW1.out
  have HH1 := Lib.hid hH1
  have HP := Lib.hid hp
  have HB := Lib.hid hback
  clear hH2 hp hback hH1
  go_wp2_with fail
  go_region_held3 (fun w' => w'.cell? ⟨d, 0, none⟩ = some (.int .i64 D.room))
    (first
      | go_keep
      | exact d02)
    (first
      | (go_at_call 50
         with_reducible refine (used_any P d D.beg A1 F hD1 hW.beg (by rw [HU.out]; omega) _ HH1.out.drew).mono ?_
         rintro e w2 ⟨rfl, hH2⟩
         rw [HU.out]
         have hH3 : Hp w2 P (((d, Obj.cells (dkCells D.beg nb kb cv) 82 (0, 0)) :: (f.blk, Obj.cells (fcells f (.slice va f.b.length vc)) 89 (0, 0)) :: A0) ++ F) := hH2.perm (HP.out.append_right F)
         have d02 : w2.cell? ⟨d, 0, none⟩ = some (.int .i64 D.room) := by rw [← HR.out]; exact (@Hp.cell _ _ _ hH3 d (dkCells D.beg nb kb cv) 82 (0, 0) (by simp)) rfl))
  clear hw1 hw2
  obtain ⟨-, c1, -, cf⟩ := hH3.fcell (f := f) (v := .slice va f.b.length vc) (by simp)
  have hl0 : f.b.length = 0 := by rw [hfe]; rfl
  rw [hl0] at c1 hvc hv
  go_wp2_with fail
  refine (clip_any va 0 vc hvc (by omega) _).mono ?_
  rintro e w3 ⟨rfl, rfl⟩
  have hvs : Pers P (fun w => SlB w (.slice va 0 0) []) := fun w hw => by
    cases va with
    | none => exact .inl ⟨rfl, rfl⟩
    | some a => exact .inr (.inr ⟨a, 0, rfl, rfl⟩)
  have HVS := Lib.hid hvs
  have HFE := Lib.hid hfe
  have HL0 := Lib.hid hl0
  obtain ⟨i0, hi, -, -, -⟩ := info_parts infoU8
  clear hv hvs
  have e7 : w2.cell? ⟨d, 7, none⟩ = some (.int .i64 D.calls) := by rw [← HC.out]; exact (@Hp.cell _ _ _ hH3 d (dkCells D.beg nb kb cv) 82 (0, 0) (by simp)) rfl
  have g7 := @Hp.frozen _ _ _ hH3 d (dkCells D.beg nb kb cv) 82 (by simp) 7
  have g1 := cf 1
  have hne : ¬ f.blk = d := by
    have := hH3.nodup
    simp at this
    exact fun e => this.1.1 e.symm
  have hne2 : ¬ d = f.blk := fun e => hne e.symm
  have H6 := Lib.hid hH3
  clear cf hH3 hH2 d02
  go_wp2_with (at_builtin; refine wpList_append_zero rfl _ _ _ rfl 5 i0 Tryz.underlying22 hi va ya yc rfl rfl hya ?_)
  go_ret
  refine ⟨rfl, P, ?_⟩
  obtain ⟨A', h1, h2⟩ := HB.out P { f with b := f.b ++ [] } (.slice va 0 0) (wrap64 (D.calls + 1)) (Sub.refl P) rfl ⟨rfl, fun h => by simpa using h⟩ (by rw [HFE.out]; exact HVS.out)
  have hlz : (f.b ++ ([] : List Nat)).length = 0 := by rw [HFE.out]; rfl
  refine ⟨A', Sub.refl P, h1, ?_⟩
  have hG := (((H6.out.pick 1 rfl).set 1 (.slice va 0 0)).pick 1 rfl).set 7 (.int .i64 (wrap64 (D.calls + 1)))
  refine Hp.perm (M := _ ++ F) ?_ (h2.append_right F)
  simpa [dkCells, fcells, Dk.withF] using hG

end
end Go.Proofs.YtncjffkpkmjgkaaGreatDoor.Sg

/-! Us -/
namespace Go.Proofs.YtncjffkpkmjgkaaGreatDoor.Sg
open Go.RowKit Er

theorem digs_front : ∀ (k n : Nat), digs (k + 1) n = UInt8.ofNat (48 + n / 10 ^ k % 10) :: digs k n
  | 0, n => by simp [digs]
  | k + 1, n => by
    have h := digs_front k (n / 10)
    rw [Nat.div_div_eq_div_mul] at h
    rw [digs, h]
    rw [show (10 : Nat) ^ (k + 1) = 10 * 10 ^ k from by rw [Nat.pow_succ, Nat.mul_comm]]
    rfl
theorem cat_one (c : UInt8) (l : Nam) : (⟨#[c]⟩ ++ ⟨l.toArray⟩ : ByteArray) = ⟨(c :: l).toArray⟩ := by
  apply ByteArray.ext
  simp

set_option maxRecDepth 100000 in
set_option maxHeartbeats 400000 in
theorem rdigits_any (n : Nat) (hn : n ≤ 1099511627776) (w : World) :
    Calls Tryz.prog 45 #[.int .i64 n, .int .i64 13] w fun e w' => e = .returned (str (digs 13 n)) ∧ Below w.heap.size w w' := by
  go_enter Tryz.func45, Tryz.ntmps45
  go_wp2_with fail
  go_loopg [0, 5, 6] 13 (fun m v0 v5 v6 wr => ∃ k : Nat, k + m = 13 ∧ v0 = .int .i64 ((n / 10 ^ k : Nat) : Int) ∧ v5 = .string ⟨(digs k n).toArray⟩ ∧ v6 = .int .i64 k ∧ Below w.heap.size w wr)
  case atStart => exact ⟨0, by omega, by simp, rfl, rfl, Below.refl _ _⟩
  case round =>
    obtain ⟨k, hk, rfl, rfl, rfl, hb⟩ := hrel
    obtain ⟨q, hq⟩ : ∃ q, n / 10 ^ k = q := ⟨_, rfl⟩
    have hqn : q ≤ n := by rw [← hq]; exact Nat.div_le_self _ _
    have hfr := digs_front k n
    have hnx : n / 10 ^ (k + 1) = q / 10 := by rw [Nat.pow_succ, ← Nat.div_div_eq_div_mul, hq]
    rw [hq] at hfr ⊢
    obtain ⟨bs, hbs⟩ : ∃ bs : ByteArray, (⟨(digs k n).toArray⟩ : ByteArray) = bs := ⟨_, rfl⟩
    rw [hbs]
    have hbz : bs.size = k := by rw [← hbs]; simp [ByteArray.size, digs_len]
    have hc : ¬ 9223372036854775807 < 1 + bs.size := by omega
    have HFR := Lib.hid hfr
    have HNX := Lib.hid hnx
    have HBS := Lib.hid hbs
    have HB := Lib.hid hb
    clear hfr hnx hbs hq hb
    by_cases hlt : k < 13
    · obtain ⟨gj, rfl⟩ : ∃ x, gk = x + 1 := ⟨gk - 1, by omega⟩
      obtain ⟨q2, d, rfl, hd⟩ : ∃ q2 d, q = 10 * q2 + d ∧ d < 10 := ⟨q / 10, q % 10, by omega, by omega⟩
      have e1 : ((10 * q2 + d : Nat) : Int) % 10 = (d : Int) := by omega
      have e2 : ((10 * q2 + d : Nat) : Int) / 10 = (q2 : Int) := by omega
      have e3 : (10 * q2 + d) / 10 = q2 := by omega
      have e4 : (10 * q2 + d) % 10 = d := by omega
      have i1 : (k : Int) < 13 := by omega
      obtain ⟨z, hz⟩ : ∃ z, 10 * q2 + d = z := ⟨_, rfl⟩
      have HF2 : Hid (digs (k + 1) n = UInt8.ofNat (48 + d) :: digs k n) := by show _ = _; rw [HFR.out, e4]
      have HN2 : Hid (n / 10 ^ (k + 1) = q2) := by show _ = _; rw [HNX.out, e3]
      have HCT : Hid (∀ ex : ByteArray, ex = ⟨#[UInt8.ofNat (48 + d)]⟩ → Value.string (ex ++ bs) = .string ⟨(digs (k + 1) n).toArray⟩) := fun ex he => by
        rw [he, HF2.out, ← HBS.out]
        exact congrArg Value.string (cat_one _ _)
      rw [hz] at e1 e2 hqn ⊢
      clear HFR HNX e3 e4 hz
      rcases (show d = 0 ∨ d = 1 ∨ d = 2 ∨ d = 3 ∨ d = 4 ∨ d = 5 ∨ d = 6 ∨ d = 7 ∨ d = 8 ∨ d = 9 by omega) with rfl | rfl | rfl | rfl | rfl | rfl | rfl | rfl | rfl | rfl
      all_goals
        go_wp2_with fail
        go_roundg gj
        case measure => omega
        case rel => exact ⟨k + 1, by omega, by rw [HN2.out], HCT.out _ (by kernel_rfl), by go_num, HB.out⟩
    · obtain rfl : k = 13 := by omega
      clear HFR HNX
      go_wp2_with fail
      go_ret
      exact ⟨by rw [← HBS.out]; rfl, HB.out⟩

set_option maxRecDepth 100000 in
theorem rsegment_any (n : Nat) (hn : n ≤ 1099511627776) (w : World) :
    Calls Tryz.prog 10 #[.int .i64 n] w fun e w' => e = .returned (str (segNm n)) ∧ Below w.heap.size w w' := by
  go_enter Tryz.func10, Tryz.ntmps10
  go_wp2_with fail
  refine (rright_any (n : Int) _).mono ?_
  rintro e w1 ⟨rfl, rfl⟩
  have h1 : (decide ((0 : Int) ≤ (n : Int)) && decide ((n : Int) ≤ 1099511627776)) = true := by simp; omega
  rw [h1]
  clear h1
  go_wp2_with fail
  refine (rdigits_any n hn _).mono ?_
  rintro e w1 ⟨rfl, hb⟩
  have HB := Lib.hid hb
  obtain ⟨bs, hbs⟩ : ∃ bs : ByteArray, (⟨(digs 13 n).toArray⟩ : ByteArray) = bs := ⟨_, rfl⟩
  rw [show str (digs 13 n) = .string bs from congrArg Value.string hbs]
  have HS : Hid ((⟨#[108, 111, 103, 45]⟩ ++ bs : ByteArray) = ⟨(segNm n).toArray⟩) := by
    show _ = _
    rw [← hbs]
    apply ByteArray.ext
    simp [segNm]
  have hc : bs.size = 13 := by rw [← hbs]; simp [ByteArray.size, digs_len]
  have hc2 : ¬ 9223372036854775807 < 4 + bs.size := by omega
  clear hb hbs
  go_wp2_with fail
  go_ret
  exact ⟨congrArg (fun b => Ending.returned (Value.string b)) HS.out, HB.out⟩
end Go.Proofs.YtncjffkpkmjgkaaGreatDoor.Sg

/-! Ut -/
namespace Go.Proofs.YtncjffkpkmjgkaaGreatDoor.Sg
open Go.RowKit Er Go.Maps

theorem slB_take {w : World} {a : Option Addr} {n c : Nat} {xs : List Nat} (h : SlB w (.slice a n c) xs) (m : Nat) (hm : m ≤ n) : SlB w (.slice a m c) (xs.take m) := by
  obtain ⟨va, vc, hv, hc⟩ := h.shape
  simp only [Value.slice.injEq] at hv
  obtain ⟨rfl, hn, rfl⟩ := hv
  by_cases h0 : xs.length = 0
  · have hx : xs = [] := List.eq_nil_of_length_eq_zero h0
    obtain rfl : m = 0 := by omega
    subst hx
    rcases h with ⟨h, _⟩ | ⟨g, off, cap, h, _⟩ | ⟨b, cap, h, _⟩
    · simp only [Value.slice.injEq] at h
      obtain ⟨rfl, -, rfl⟩ := h
      exact .inl ⟨rfl, rfl⟩
    · simp only [Value.slice.injEq] at h
      obtain ⟨rfl, -, rfl⟩ := h
      exact .inr (.inr ⟨_, _, rfl, rfl⟩)
    · simp only [Value.slice.injEq] at h
      obtain ⟨rfl, -, rfl⟩ := h
      exact .inr (.inr ⟨_, _, rfl, rfl⟩)
  · obtain ⟨g, off, cap, hv, -, -⟩ := slB_cell h (k := 0) (by omega)
    simp only [Value.slice.injEq] at hv
    obtain ⟨rfl, -, rfl⟩ := hv
    have := h.drop (p := 0) (by omega) (m := m) (by omega) c (by omega)
    rwa [List.drop_zero, Nat.add_zero] at this

section
variable {S : List Nat} {E : Nat → Addr} {B : Nat} {P : Pm} {d : Nat} {D : Dk} {A F : Mm} {w : World}

/-- Append to an empty file, of any bytes. -/
theorem dappend_new (C : Ctx S E B P) (hD : DkM P d D A) (hW : DkW D) (hH : Hp w P (A ++ F)) (s : Nam) (hs : s.length ≤ 1099511627776) (b : Nat) (h : D.find s = .ok b) (f : Fl) (hf : ffind D.fl b = some f) (hfe : f.b = []) (y : Value) (ys : List Nat) (hy : Pers P (fun w => SlB w y ys))
    (hr : D.room ≤ 1099511627776) (hroom : D.used + ys.length ≤ D.room) :
    Calls Tryz.prog 12 #[ptr d, str s, y] w fun e w' => e = .returned .nilIface ∧ ∃ P' A', Sub P P' ∧ DkM P' d (D.app f ys) A' ∧ Hp w' P' (A' ++ F) := by
  by_cases h0 : ys = []
  · subst h0
    have hsl := hH.use hy
    obtain ⟨ya, yc, rfl, -⟩ := hsl.shape
    refine dappend_nil C hD hW hH s hs b h f hf hfe ya yc (fun he => ?_) hr (by simpa using hroom)
    subst he
    rcases hsl with ⟨h, _⟩ | ⟨g, off, cap, h, _⟩ | ⟨b, cap, h, _⟩
    · simp only [Value.slice.injEq] at h
      exact h.2.2
    · simp at h
    · simp at h
  · exact dappend_ok C hD hW hH s hs b h f hf y ys hy h0 hr hroom (by rw [hfe]; exact Nat.zero_le _)

/-- Open of any file: the batches that follow one another. -/
theorem sopen_fol (C : Ctx S E B P) (hD : DkM P d D A) (hI : DkI D) (base : Nat) (hb : base ≤ 1099511627776) (every : Nat) (h1 : 1 ≤ every) (h2 : every ≤ 1048576) (f : Fl) (hl : D.look (segNm base) = some f)
    (hroom : D.room ≤ 4194304) (hused : D.used ≤ D.room) (l : List Bt) (t : List Nat) (hfb : f.b = flatB l ++ t) (hok : ∀ x, x ∈ l → BtOk x ∧ BtBy x) (ht : t = [] ∨ RdBad S E B t) (q : List Bt) (hq : folN base 0 l = q) (hH : Hp w P (A ++ F)) :
    Calls Tryz.prog 16 #[ptr d, .int .i64 base, .int .i64 every] w fun e w' => ∃ s P' As A' D', e = .returned (.tuple #[ptr s, .int .i64 ((f.b.length - sizes q : Nat) : Int), .nilIface]) ∧ Sub P P' ∧
      SgM s ⟨d, segNm base, base, every, q, sizes q⟩ As ∧ DkM P' d D' A' ∧ SegOn D' ⟨d, segNm base, base, every, q, sizes q⟩ ∧ Hp w' P' (As ++ (A' ++ F)) := by
  subst hq
  obtain ⟨r, hr⟩ := folN_pre l base 0
  have hfl : f.b = flatB (folN base 0 l) ++ (flatB r ++ t) := by
    rw [hfb]
    conv => lhs; rw [← hr]
    rw [flatB_app, List.append_assoc]
  have hle : sizes (folN base 0 l) ≤ f.b.length := by rw [hfl, List.length_append, flatB_len]; omega
  have hin : ∀ x, x ∈ folN base 0 l → BtOk x ∧ BtBy x := fun x hx => hok x (by rw [← hr]; exact List.mem_append_left _ hx)
  refine (sopen_ok C hD hI base hb every h1 h2 f hl hroom hused l t hfb hok ht hH).mono ?_
  rintro e w' ⟨s, P', As, A', rfl, hs, hG, hD', hH'⟩
  obtain ⟨o1, o2, o3, o4⟩ := opened_ok hI hl (sizes (folN base 0 l)) hle
  refine ⟨s, P', As, A', _, rfl, hs, hG, hD', ⟨o1, fun x hx => (hin x hx).1, fun x hx => (hin x hx).2, hb, by simp [segNm_len], ⟨{ f with b := f.b.take (sizes (folN base 0 l)), s := sizes (folN base 0 l) }, ?_, ?_, rfl⟩, ?_, ?_⟩, hH'⟩
  · show Dk.look _ (segNm base) = _
    rw [o2, if_pos rfl]
  · show f.b.take (sizes (folN base 0 l)) = flatB (folN base 0 l)
    rw [← flatB_len]
    conv => lhs; rw [hfl]
    exact List.take_left
  · rw [o4.room]; exact hroom
  · rw [o4.room]; omega

/-- What holds at the head of SegBytes' loop. -/
def SbRel (P : Pm) (F : Mm) (b : Nat) (l : List Bt) (m : Nat) (v12 v13 v14 v15 : Value) (w : World) : Prop :=
  ∃ k : Nat, k + m = l.length ∧ v12 = .int .i64 k ∧ v13 = .int .i64 (endOf b (l.take k)) ∧ v14 = .int .i64 (epOf 0 (l.take k)) ∧ v15 = .int .i64 (sizes (l.take k)) ∧
    folN b 0 l = l.take k ++ folN (endOf b (l.take k)) (epOf 0 (l.take k)) (l.drop k) ∧ Hp w P F
end

theorem fol_step {b : Int} {l : List Bt} {k : Nat} (hk : k < l.length) (h : folN b 0 l = l.take k ++ folN (endOf b (l.take k)) (epOf 0 (l.take k)) (l.drop k)) (h1 : l[k].b = endOf b (l.take k)) (h2 : epOf 0 (l.take k) ≤ l[k].e) :
    folN b 0 l = l.take (k + 1) ++ folN (endOf b (l.take (k + 1))) (epOf 0 (l.take (k + 1))) (l.drop (k + 1)) := by
  rw [List.drop_eq_getElem_cons hk] at h
  have h3 : ∀ (z : Bt) (y : List Bt), folN (endOf b (l.take k)) (epOf 0 (l.take k)) (z :: y) = if z.b = endOf b (l.take k) ∧ epOf 0 (l.take k) ≤ z.e then z :: folN (z.b + z.r.length) z.e y else [] := fun _ _ => rfl
  rw [h3, if_pos ⟨h1, h2⟩] at h
  rw [take_next l k hk, endOf_snoc, epOf_snoc, h, List.append_assoc]
  rfl
theorem fol_stop {b : Int} {l : List Bt} {k : Nat} (hk : k ≤ l.length) (h : folN b 0 l = l.take k ++ folN (endOf b (l.take k)) (epOf 0 (l.take k)) (l.drop k)) (hs : ∀ hk : k < l.length, ¬ (l[k].b = endOf b (l.take k) ∧ epOf 0 (l.take k) ≤ l[k].e)) :
    folN b 0 l = l.take k := by
  by_cases hlt : k < l.length
  · rw [List.drop_eq_getElem_cons hlt] at h
    rw [h]
    conv => lhs; rw [show ∀ (z : Bt) (y : List Bt), folN (endOf b (l.take k)) (epOf 0 (l.take k)) (z :: y) = if z.b = endOf b (l.take k) ∧ epOf 0 (l.take k) ≤ z.e then z :: folN (z.b + z.r.length) z.e y else [] from fun _ _ => rfl]
    rw [if_neg (hs hlt)]
    simp
  · rw [h, List.drop_eq_nil_of_le (by omega)]
    simp [folN]
end Go.Proofs.YtncjffkpkmjgkaaGreatDoor.Sg

/-! Uu -/
namespace Go.Proofs.YtncjffkpkmjgkaaGreatDoor.Sg
open Go.RowKit Er Go.Maps

set_option maxRecDepth 100000 in
set_option maxHeartbeats 4000000 in
theorem sbytes_all (v : Value) (bs : List Nat) (base0 : Int) (W : World) (h : SlB W v bs) (hby : ∀ y ∈ bs, y < 256) {S : List Nat} (hS : ∀ i, i < 10 ∨ i = 14 → i ∈ S) (hE : Errs S W (errAt W) W.heap.size)
    (hT : Lib.TabIs Tryz.prog W "internal/strconv.uint64pow10" .u64 Lib.pow10Tab) :
    Calls Tryz.prog 3 #[v, .int .i64 base0] W fun e W' => e = .returned (.bool true) ∧ Below W.heap.size W W' := by
  have C := ctx_start hS hE hT
  obtain ⟨a0, cap0, rfl, hcap⟩ := h.shape
  have hup : Pers (Pm.start W) (Below W.heap.size W) := fun w hw => (Pers.upd (w := W) (M := []) w hw).to_below (Nat.le_refl _) (by simp [ids])
  have hv : Pers (Pm.start W) (fun w => SlB w (.slice a0 bs.length cap0) bs) := hup.imp (fun w hb => h.below hb rfl)
  have H0 : Hid (Hp W (Pm.start W) []) := Hp.start W
  have ha : a0.map (fun x => x.add 0) = a0 := by cases a0 <;> simp [Addr.add]
  obtain ⟨bn, hbn⟩ : ∃ n, bs.length = n := ⟨_, rfl⟩
  rw [hbn] at hv hcap ⊢
  have HBN := Lib.hid hbn
  have HV := Lib.hid hv
  have HBY := Lib.hid hby
  have HA := Lib.hid ha
  obtain ⟨b, hb⟩ : ∃ b : Nat, base0 % 100 = (b : Int) := ⟨(base0 % 100).toNat, by omega⟩
  have hb100 : b < 100 := by omega
  have HB := Lib.hid hb
  clear h hby hE hT hup hv hbn ha hb
  by_cases hlen : 1000 < bn
  · have i1 : (1000 : Int) < (bn : Int) := by omega
    go_enter Tryz.func3, Tryz.ntmps3
    go_wp2_with fail
    refine (first_ok C H0.out).mono ?_
    rintro e w1 ⟨rfl, P1, hs1, hH1⟩
    have HX := Lib.hid (hH1.to_below hs1)
    clear hH1 hs1
    go_wp2_with fail
    refine (long_any base0 100 (by decide) (by decide) _).mono ?_
    rintro e w2 ⟨rfl, rfl⟩
    go_wp2_with fail
    go_ret
    exact ⟨rfl, HX.out⟩
  have i1 : ¬ (1000 : Int) < (bn : Int) := by omega
  obtain ⟨l, t, hbs, hok, ht⟩ := all_split bs.length bs (Nat.le_refl _)
  have hszl : sizes l + t.length = bn := by rw [← HBN.out, hbs, List.length_append, flatB_len]
  have hll : 22 * l.length ≤ sizes l := sizes_low l
  have htb : t = [] ∨ RdBad S (errAt W) W.heap.size t := ht.imp id (fun hno => bad_read t (fun y hy => HBY.out y (by rw [hbs]; exact List.mem_append_right _ hy)) (by omega) hno)
  obtain ⟨nm, hnm⟩ : ∃ nm, nm = segNm b := ⟨_, rfl⟩
  have hnml : nm.length ≤ 1099511627776 := by rw [hnm, segNm_len]; omega
  have hnmv : vname nm = true := by rw [hnm]; exact segNm_valid b
  have HBS := Lib.hid hbs
  have HOK := Lib.hid hok
  have HT := Lib.hid ht
  have HTB := Lib.hid htb
  have HNM := Lib.hid hnm
  have HNV := Lib.hid hnmv
  have HSZL := Lib.hid hszl
  clear hbs hok ht htb hnm hnmv
  go_enter Tryz.func3, Tryz.ntmps3
  go_wp2_with fail
  refine (first_ok C H0.out).mono ?_
  rintro e w1 ⟨rfl, P1, hs1, hH1⟩
  have HS1 := Lib.hid hs1
  have H1 := Lib.hid hH1
  clear hH1 hs1
  go_wp2_with fail
  refine (long_any base0 100 (by decide) (by decide) _).mono ?_
  rintro e w2 ⟨rfl, rfl⟩
  rw [HB.out]
  go_wp2_with fail
  refine (new_ok H1.out 5000 (by omega) (by omega)).mono ?_
  rintro e w2 ⟨d, Ad, rfl, hD, hH2⟩
  have H2 := Lib.hid hH2
  have HD := Lib.hid hD
  clear hH2 hD
  go_wp2_with fail
  refine (rsegment_any b (by omega) _).mono ?_
  rintro e w3 ⟨rfl, hb3⟩
  rw [← HNM.out]
  have H3 := Lib.hid (H2.out.below hb3 (Nat.le_refl _))
  clear hb3
  go_wp2_with fail
  refine (create_ok (C.sub HS1.out) HD.out H3.out (dk0_I 5000).ok nm HNV.out (look_none (dk0_I 5000).w rfl) (by decide) (by decide) (by decide)).mono ?_
  rintro e w4 ⟨rfl, bk, Ad4, hD4, hH4⟩
  have hnd := hD4.blks_nd hH4
  have hI4 := create_I (dk0_I 5000) (s := nm) rfl hnd
  have hlk : ((dk0 5000).create nm bk).look nm = some ⟨bk, 1, [], 0⟩ := by rw [create_look (dk0_I 5000) rfl hnd, if_pos rfl]; rfl
  have hus : ((dk0 5000).create nm bk).used = 0 := by rw [create_used (dk0_I 5000) rfl hnd]; rfl
  have hrm : ((dk0 5000).create nm bk).room = 5000 := (create_room (dk0_I 5000) (s := nm) rfl bk).1
  obtain ⟨D4, hDd⟩ : ∃ D4, (dk0 5000).create nm bk = D4 := ⟨_, rfl⟩
  rw [hDd] at hD4 hI4 hlk hus hrm
  have HD4 := Lib.hid hD4
  have HI4 := Lib.hid hI4
  have HLK := Lib.hid hlk
  have HUR : Hid (D4.used = 0 ∧ D4.room = 5000) := ⟨hus, hrm⟩
  have H4 := Lib.hid hH4
  clear hnd hD4 hI4 hlk hus hrm hDd hH4
  go_wp2_with fail
  refine (dappend_new (C.sub HS1.out) HD4.out HI4.out.w H4.out nm hnml bk (HI4.out.find_ok HLK.out) ⟨bk, 1, [], 0⟩ (look_some HLK.out).2 rfl _ bs (HV.out.sub HS1.out) (by rw [HUR.out.2]; omega) (by rw [HUR.out.1, HUR.out.2, HBN.out]; omega)).mono ?_
  rintro e w5 ⟨rfl, P5, Ad5, hs5, hD5, hH5⟩
  have hI5 := app_I HI4.out ⟨bk, 1, [], 0⟩ bs
  have hl5 : (D4.app ⟨bk, 1, [], 0⟩ bs).look nm = some ⟨bk, 1, bs, 0⟩ := by rw [app_look HI4.out HLK.out, if_pos rfl]; rfl
  have hu5 : (D4.app ⟨bk, 1, [], 0⟩ bs).used = bn := by rw [app_used HI4.out HLK.out, HUR.out.1, HBN.out]; omega
  have hr5 : (D4.app ⟨bk, 1, [], 0⟩ bs).room = 5000 := by rw [(app_same HI4.out _ bs).room]; exact HUR.out.2
  obtain ⟨D5, hDd⟩ : ∃ D5, D4.app ⟨bk, 1, [], 0⟩ bs = D5 := ⟨_, rfl⟩
  rw [hDd] at hD5 hI5 hl5 hu5 hr5
  have HD5 := Lib.hid hD5
  have HI5 := Lib.hid hI5
  have HL5 := Lib.hid hl5
  have HUR5 : Hid (D5.used = bn ∧ D5.room = 5000) := ⟨hu5, hr5⟩
  have H5 := Lib.hid hH5
  have HS5 := Lib.hid (HS1.out.trans hs5)
  clear hs5 hD5 hI5 hl5 hu5 hr5 hDd hH5
  go_wp2_with fail
  refine (all1_ok (P := P5) l t HOK.out HT.out (by rw [← HBS.out]; exact HBY.out) _ (by have := HV.out.sub HS5.out; rw [← HBS.out]; exact this) (by rw [← HBS.out, HBN.out]; omega) (by omega) H5.out).mono ?_
  rintro e w6 ⟨v9, c9, out, P6, A6, rfl, hs6, hbm, hH6⟩
  obtain ⟨P7, hs7, hbp, hH7⟩ := hbm.seal hH6
  have hmap := hbm.map
  obtain ⟨ua, uc, rfl, huc⟩ := hbp.shape
  have hol : out.length = l.length := by rw [← hmap, List.length_map]
  obtain ⟨n, hn⟩ : ∃ n, l.length = n := ⟨_, rfl⟩
  rw [hol, hn] at hbp huc ⊢
  have HN := Lib.hid hn
  have H7 := Lib.hid hH7
  have HBP := Lib.hid hbp
  have HM := Lib.hid hmap
  have HOL := Lib.hid hol
  have HS67 := Lib.hid (hs6.trans hs7)
  have HS7 := Lib.hid (HS5.out.trans (hs6.trans hs7))
  have hn1 : 22 * n ≤ 1000 := by omega
  clear hs6 hbm hH6 hs7 hbp hH7 hmap hol hn hszl hll
  go_wp2_with fail
  go_loopg [12, 13, 14, 15] n (fun m v12 v13 v14 v15 wr => SbRel P7 (Ad5 ++ []) b l m v12 v13 v14 v15 wr)
  case atStart =>
    refine ⟨0, by rw [HN.out]; omega, rfl, rfl, rfl, rfl, ?_, H7.out⟩
    simp [endOf, epOf]
  case round =>
    obtain ⟨k, hk, rfl, rfl, rfl, rfl, hfo, hHr⟩ := hrel
    rw [HN.out] at hk
    obtain ⟨az, haz⟩ : ∃ z, endOf (b : Int) (l.take k) = z := ⟨_, rfl⟩
    obtain ⟨ez, hez⟩ : ∃ z, epOf 0 (l.take k) = z := ⟨_, rfl⟩
    obtain ⟨sz, hsz⟩ : ∃ z, sizes (l.take k) = z := ⟨_, rfl⟩
    have hcase : (∃ hk : k < l.length, l[k].b = az ∧ ez ≤ l[k].e) ∨ (k = n ∨ (∃ hk : k < l.length, l[k].b ≠ az) ∨ ∃ hk : k < l.length, l[k].b = az ∧ l[k].e < ez) := by
      by_cases h1 : k < l.length
      · by_cases h2 : l[k].b = az
        · by_cases h3 : ez ≤ l[k].e
          · exact .inl ⟨h1, h2, h3⟩
          · exact .inr (.inr (.inr ⟨h1, h2, by omega⟩))
        · exact .inr (.inr (.inl ⟨h1, h2⟩))
      · exact .inr (.inl (by rw [HN.out] at h1; omega))
    have hat : ∀ hlt : k < l.length, ∃ g off pa pc, ua = some ⟨g, off, none⟩ ∧ Pers P7 (fun w => BtV w (.agg #[.int .i64 l[k].b, .int .i64 l[k].e, .slice pa l[k].r.length pc]) l[k]) ∧
        wr.cell? ⟨g, off + k * 3, none⟩ = some (.int .i64 l[k].b) ∧ wr.cell? ⟨g, off + k * 3 + 1, none⟩ = some (.int .i64 l[k].e) ∧ wr.cell? ⟨g, off + k * 3 + 2, none⟩ = some (.slice pa l[k].r.length pc) := fun hlt => by
      have hko : k < out.length := by rw [HOL.out]; exact hlt
      have hbp := HBP.out
      rw [← HN.out, ← HOL.out] at hbp
      obtain ⟨g, off, cap, hvv, hcap, hbc⟩ := hbp.at_ hko
      simp only [Value.slice.injEq] at hvv
      obtain ⟨rfl, -, -⟩ := hvv
      have hx : (out[k]'hko).1 = l[k] := by have := HM.out; subst this; simp
      obtain ⟨-, c0, c1, c2, hrc⟩ := hHr.use hbc
      obtain ⟨pa, pc, hp⟩ := hrc.shape
      rw [hx] at c0 c1 hrc hp
      rw [hp] at c2
      refine ⟨g, off, pa, pc, rfl, hbc.imp (fun w1 h => ?_), c0, c1, c2⟩
      obtain ⟨-, -, -, -, h5⟩ := h
      rw [hx, hp] at h5
      exact ⟨_, rfl, h5⟩
    have hszk : sz ≤ sizes l := by
      have : sizes l = sizes (l.take k) + sizes (l.drop k) := by rw [← sizes_app, List.take_append_drop]
      omega
    have HFO := Lib.hid hfo
    have HHr := Lib.hid hHr
    have HAZ := Lib.hid haz
    have HEZ := Lib.hid hez
    have HSZ := Lib.hid hsz
    have HAT := Lib.hid hat
    rw [haz, hez, hsz]
    clear hfo hHr haz hez hsz hat
    rcases hcase with ⟨hlt, q1, q2⟩ | hex
    · obtain ⟨g, off, pa, pc, rfl, hbv, c0, c1, c2⟩ := HAT.out hlt
      obtain ⟨gj, rfl⟩ : ∃ x, gk = x + 1 := ⟨gk - 1, by have := HN.out; omega⟩
      have htn := take_next l k hlt
      have hsk := sizes_take l k hlt
      rw [HSZ.out] at hsk
      have hfo2 := fol_step hlt HFO.out (by rw [HAZ.out]; exact q1) (by rw [HEZ.out]; exact q2)
      obtain ⟨hxo, hxb⟩ := HOK.out l[k] (List.getElem_mem hlt)
      obtain ⟨x, hx⟩ : ∃ x, l[k] = x := ⟨_, rfl⟩
      rw [hx] at hbv c0 c1 c2 htn hsk hxo hxb q1 q2
      obtain ⟨zx, hzx⟩ : ∃ z, szB x = z := ⟨_, rfl⟩
      rw [hzx] at hsk
      have hkn : k < n := by rw [← HN.out]; exact hlt
      subst q1
      have hb0 := hxo.b0
      have hb1 := hxo.b1
      have hr64 := hxo.n64
      have j1 : (k : Int) < (n : Int) := by omega
      have j2 : (0 : Int) ≤ (k : Int) := by omega
      have hszl := HSZL.out
      have hrel : sizes (l.take (k + 1)) = sz + zx := by rw [htn, sizes_app, HSZ.out]; simp [sizes, hzx]
      have e3 : endOf (b : Int) (l.take (k + 1)) = x.b + x.r.length := by rw [htn, endOf_snoc]
      have e4 : epOf 0 (l.take (k + 1)) = x.e := by rw [htn, epOf_snoc]
      have HBV := Lib.hid hbv
      have HZX := Lib.hid hzx
      have HRL := Lib.hid hrel
      have HE3 := Lib.hid e3
      have HE4 := Lib.hid e4
      have HF2 := Lib.hid hfo2
      have HXO := Lib.hid hxo
      have HXB := Lib.hid hxb
      clear hbv hzx hrel e3 e4 hfo2 hxo hxb htn hx
      go_wp2_with fail
      refine (rnext_any x (by omega) (by omega) (by omega) _ _ (HHr.out.use HBV.out)).mono ?_
      rintro e w10 ⟨rfl, hb10⟩
      have H10 := Lib.hid (HHr.out.below hb10 (Nat.le_refl _))
      have d0 := (hb10.cell (p := ⟨g, off + k * 3, none⟩) (World.block_lt_of_cell? _ _ c0)).trans c0
      have d1 := (hb10.cell (p := ⟨g, off + k * 3 + 1, none⟩) (World.block_lt_of_cell? _ _ c1)).trans c1
      have d2 := (hb10.cell (p := ⟨g, off + k * 3 + 2, none⟩) (World.block_lt_of_cell? _ _ c2)).trans c2
      clear hb10 c0 c1 c2
      go_wp2_with fail
      refine (rsize_any x HXO.out HXB.out _ _ (H10.out.use HBV.out)).mono ?_
      rintro e w11 ⟨rfl, hb11⟩
      rw [HZX.out]
      have hH11 := H10.out.below hb11 (Nat.le_refl _)
      have H11 := Lib.hid hH11
      clear hb11 hH11 d0 d1 d2
      go_wp2_with fail
      go_roundg gj
      case measure => omega
      case rel => exact ⟨k + 1, by rw [HN.out]; omega, by go_num, by rw [HE3.out], by rw [HE4.out], by rw [HRL.out]; go_num, HF2.out, H11.out⟩
    · have hkl : k ≤ l.length := by rw [HN.out]; omega
      have hfol : folN b 0 l = l.take k := fol_stop hkl HFO.out (fun hlt => by
        rw [HAZ.out, HEZ.out]
        rcases hex with h | ⟨hz, h⟩ | ⟨hz, h1, h2⟩
        · rw [HN.out] at hlt; omega
        · exact fun h3 => h h3.1
        · exact fun h3 => by omega)
      have HFOL := Lib.hid hfol
      clear hfol
      refine Or.elim hex (fun h => ?exA) (fun hx => Or.elim hx (fun h => ?exB) (fun h => ?exC))
      case' exA =>
        have j1 : ¬ (k : Int) < (n : Int) := by omega
        have j1' : ¬ k < n := by omega
        go_wp2_with fail
      case' exB =>
        obtain ⟨hlt, q1⟩ := h
        obtain ⟨g, off, pa, pc, rfl, -, c0, c1, c2⟩ := HAT.out hlt
        have hkn : k < n := by rw [← HN.out]; exact hlt
        have j1 : (k : Int) < (n : Int) := by omega
        have j2 : (0 : Int) ≤ (k : Int) := by omega
        go_wp2_with fail
      case' exC =>
        obtain ⟨hlt, q1, q2⟩ := h
        obtain ⟨g, off, pa, pc, rfl, -, c0, c1, c2⟩ := HAT.out hlt
        have hkn : k < n := by rw [← HN.out]; exact hlt
        have j1 : (k : Int) < (n : Int) := by omega
        have j2 : (0 : Int) ≤ (k : Int) := by omega
        have j3 : ¬ ez ≤ l[k].e := by omega
        go_wp2_with fail
      all_goals
        refine (sopen_fol (C.sub HS7.out) (HD5.out.sub HS67.out) HI5.out b (by omega) 50 (by decide) (by decide) ⟨bk, 1, bs, 0⟩ (by rw [← HNM.out]; exact HL5.out) (by rw [HUR5.out.2]; omega) (by rw [HUR5.out.1, HUR5.out.2]; omega) l t HBS.out HOK.out HTB.out (l.take k) HFOL.out HHr.out).mono ?_
        rintro e w20 ⟨s, P20, As, A20, D20, rfl, hs20, hG20, hD20, hO20, hH20⟩
        have hen : Sg.end_ ⟨d, segNm b, b, 50, l.take k, sizes (l.take k)⟩ = az := HAZ.out
        obtain ⟨cu, hcu⟩ : ∃ c, bs.length - sizes (l.take k) = c := ⟨_, rfl⟩
        rw [show (⟨bk, 1, bs, 0⟩ : Fl).b.length - sizes (l.take k) = cu from hcu]
        have hszl := HSZL.out
        have hcu2 : bn = sz + cu := by rw [HBN.out, HSZ.out] at hcu; omega
        have k1 : (cu : Int) = (bn : Int) - (sz : Int) := by omega
        have HEN := Lib.hid hen
        have HG20 := Lib.hid hG20
        have HD20 := Lib.hid hD20
        have HO20 := Lib.hid hO20
        have HS20 := Lib.hid (HS7.out.trans hs20)
        have H20 := Lib.hid hH20
        have HSZ2 : Hid (sizes (Sg.l ⟨d, segNm b, b, 50, l.take k, sizes (l.take k)⟩) = sz) := HSZ.out
        clear hs20 hG20 hD20 hO20 hH20 hen hcu hcu2 hszl
        go_wp2_with fail
        refine (end_any HG20.out HO20.out.W H20.out).mono ?_
        rintro e w21 ⟨rfl, hH21⟩
        rw [HEN.out]
        have H21 := Lib.hid hH21
        clear hH21
        go_wp2_with fail
        refine (ssize_any HG20.out HO20.out.W H21.out).mono ?_
        rintro e w22 ⟨rfl, hH22⟩
        rw [HSZ2.out]
        have H22 := Lib.hid hH22
        clear hH22
        go_wp2_with fail
        refine (sraw_on (C.sub HS20.out) HG20.out HO20.out HD20.out H22.out).mono ?_
        rintro e w23 ⟨v23, P23, rfl, hs23, hp23, hH23⟩
        have hfl : flatB (Sg.l ⟨d, segNm b, b, 50, l.take k, sizes (l.take k)⟩) = bs.take sz := by
          show flatB (l.take k) = _
          rw [HBS.out, ← HSZ.out, ← flatB_len]
          conv => rhs; rw [← List.take_append_drop k l, flatB_app, List.append_assoc]
          rw [List.take_append_drop, List.take_left]
        rw [hfl] at hp23
        have HP23 := Lib.hid hp23
        have H23 := Lib.hid hH23
        have HS23 := Lib.hid (HS20.out.trans hs23)
        clear hs23 hp23 hH23 hfl
        have m1 : (0 : Int) ≤ (sz : Int) := by omega
        have m2 : (sz : Int) ≤ (cap0 : Int) := by omega
        go_wp2_with fail
        refine (samebytes_ok _ _ (bs.take sz) _ (H23.out.use HP23.out) (by first | exact slB_take (H23.out.use (HV.out.sub HS23.out)) sz (by omega) | (rw [HA.out]; exact slB_take (H23.out.use (HV.out.sub HS23.out)) sz (by omega))) (by simp; omega)).mono ?_
        rintro e w24 ⟨rfl, hb24⟩
        have HX := Lib.hid ((H23.out.below hb24 (Nat.le_refl _)).to_below HS23.out)
        clear hb24
        go_wp2_with fail
        go_ret
        exact ⟨rfl, HX.out⟩
end Go.Proofs.YtncjffkpkmjgkaaGreatDoor.Sg
