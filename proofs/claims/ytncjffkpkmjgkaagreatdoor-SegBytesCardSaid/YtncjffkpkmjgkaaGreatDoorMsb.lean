/- cordwoodref1.Get, GetInt of any bytes. cordwoodref1.Reader over any bytes: Fine, fail, Num, Int. cordwoodref.Bytes; cordwoodref1.Fixed; the reference's Reader: Bytes, Fixed. The reference's Reader.Fixed. The reference's Reader in any state; what a parse comes to. -/
import Derived.Test.YtncjffkpkmjgkaaGreatDoorMsa
import Derived.Test.YtncjffkpkmjgkaaGreatDoorMe
import Derived.Test.YtncjffkpkmjgkaaGreatDoorMsd

/-! Ui -/
namespace Go.Proofs.YtncjffkpkmjgkaaGreatDoor.Sg
open Go.RowKit Er Go.Maps

theorem getG2 (acc d i : Nat) (hacc : acc < 2 ^ (7 * i)) (h : acc + d * 2 ^ (7 * i) < 18446744073709551616) :
    bits .or .u64 (acc : Int) (IntKind.u64.wrap ((d : Int) * 2 ^ (7 * i))) = ((acc + d * 2 ^ (7 * i) : Nat) : Int) := by
  rw [show ((d : Int) * 2 ^ (7 * i)) = ((d * 2 ^ (7 * i) : Nat) : Int) from by rw [Int.natCast_mul, Int.natCast_pow]; rfl]
  rw [wraps_u64 _ (by omega) (by omega), or64 _ _ (by omega) (by omega), or_add _ _ _ hacc]

/-- What Get comes to. -/
def GetR (o : Option (Nat × Nat)) (e : Ending) : Prop :=
  (∃ N k : Nat, o = some (N, k) ∧ e = .returned (.tuple #[.int .u64 N, .int .i64 k, .int .i64 0]) ∧ N < 18446744073709551616) ∨ (o = none ∧ ∃ c : Nat, (c = 101 ∨ c = 103) ∧ e = .returned (.tuple #[.int .u64 0, .int .i64 0, .int .i64 c]))

set_option maxRecDepth 100000 in
set_option maxHeartbeats 4000000 in
theorem rget_any (v : Value) (xs : List Nat) (w : World) (h : SlB w v xs) (hb : ∀ y ∈ xs, y < 256) :
    Calls Tryz.prog 193 #[v] w fun e w' => GetR (getF 0 0 xs) e ∧ w = w' := by
  have H0 := Lib.hid h
  obtain ⟨va, vc, rfl, -⟩ := h.shape
  obtain ⟨n, hn⟩ : ∃ n, xs.length = n := ⟨_, rfl⟩
  have HN := Lib.hid hn
  rw [hn]
  clear h hn
  go_enter Tryz.func193, Tryz.ntmps193
  go_wp2_with fail
  go_loopg [5, 6] 10 (fun m q j wr => ∃ (i acc : Nat), i + m = 10 ∧ i ≤ 10 ∧ j = .int .i64 i ∧ q = .int .u64 acc ∧ wr = w ∧ (i ≤ 9 → acc < 2 ^ (7 * i)) ∧ getF 0 0 xs = getF i acc (xs.drop i))
  case atStart => exact ⟨0, 0, rfl, by omega, rfl, rfl, rfl, fun _ => by simp, rfl⟩
  case round =>
    obtain ⟨i, acc, hi, hi10, rfl, rfl, rfl, hacc, hgf⟩ := hrel
    by_cases hlt : i < 10
    · replace hacc := hacc (by omega)
      have j0 : (i : Int) < 10 := by omega
      by_cases hin : i < n
      · have hlt2 : i < xs.length := by rw [HN.out]; exact hin
        obtain ⟨g, off, cap, hvv, hg, hc⟩ := slB_cell H0.out hlt2
        rw [HN.out] at hvv
        cases hvv
        have hcb := hb _ (List.getElem_mem hlt2)
        have hdr : xs.drop i = xs[i] :: xs.drop (i + 1) := List.drop_eq_getElem_cons hlt2
        obtain ⟨c, hce⟩ : ∃ c, xs[i] = c := ⟨_, rfl⟩
        rw [hce] at hc hcb hdr
        obtain ⟨d, hdv⟩ : ∃ d, c % 128 = d := ⟨_, rfl⟩
        have hd127 : d ≤ 127 := by omega
        have hA : bits .and .u8 (c : Int) 127 = (d : Int) := by
          have h1 := and8 c 127 hcb (by omega)
          rw [show (127 : Nat) = 2 ^ 7 - 1 from rfl, Nat.and_two_pow_sub_one_eq_mod] at h1
          rw [show (127 : Int) = ((2 ^ 7 - 1 : Nat) : Int) from rfl, h1, ← hdv]
        have j1 : ¬ (n : Int) ≤ (i : Int) := by omega
        by_cases hi9 : i = 9
        · have h9 : ((i : Int) == 9) = true := by rw [hi9]; rfl
          have h00 : (0 : Int) < (i : Int) := by omega
          by_cases hd1 : 1 < d
          · have k1 : (1 : Int) < (d : Int) := by omega
            have HGF : Hid (getF 0 0 xs = none) := by
              show _ = _
              rw [hgf, hdr]
              show (if _ then _ else _) = _
              rw [hdv, if_pos (by omega)]
            clear hgf hdr hacc hdv hce
            try clear hi9
            try clear hi0
            try clear hc0
            go_wp2_with fail
            exact bodyPost_ret (v := .tuple #[.int .u64 0, .int .i64 0, .int .i64 103]) (by simp [results, Tryz.results193, go_sem]) rfl ⟨.inr ⟨HGF.out, 103, .inr rfl, rfl⟩, rfl⟩
          · have k1 : ¬ (1 : Int) < (d : Int) := by omega
            by_cases hc0 : c = 0
            · have k2 : ((c : Int) == 0) = true := by rw [hc0]; rfl
              have HGF : Hid (getF 0 0 xs = none) := by
                show _ = _
                rw [hgf, hdr]
                show (if _ then _ else _) = _
                rw [hdv, if_pos (by omega)]
              clear hgf hdr hacc hdv hce
              try clear hi9
              try clear hi0
              try clear hc0
              go_wp2_with fail
              exact bodyPost_ret (v := .tuple #[.int .u64 0, .int .i64 0, .int .i64 103]) (by simp [results, Tryz.results193, go_sem]) rfl ⟨.inr ⟨HGF.out, 103, .inr rfl, rfl⟩, rfl⟩
            · have k2 : ((c : Int) == 0) = false := beq_eq_false_iff_ne.2 (by omega)
              by_cases hc1 : c < 128
              · have k3 : (c : Int) < 128 := by omega
                have hG := getG2 acc d i hacc (by have : d * 2 ^ (7 * i) ≤ 1 * 2 ^ (7 * i) := Nat.mul_le_mul_right _ (by omega); rw [hi9] at this hacc ⊢; rw [show 2 ^ (7 * 9) = 9223372036854775808 from rfl] at *; omega)
                obtain ⟨N, hN⟩ : ∃ N, acc + d * 2 ^ (7 * i) = N := ⟨_, rfl⟩
                rw [hN] at hG
                have hN64 : N < 18446744073709551616 := by rw [← hN]; have : d * 2 ^ (7 * i) ≤ 1 * 2 ^ (7 * i) := Nat.mul_le_mul_right _ (by omega); rw [hi9] at this hacc ⊢; rw [show 2 ^ (7 * 9) = 9223372036854775808 from rfl] at *; omega
                have HGF : Hid (getF 0 0 xs = some (N, i + 1)) := by
                  show _ = _
                  rw [hgf, hdr]
                  show (if _ then _ else _) = _
                  rw [hdv, if_neg (by omega), if_pos (by omega), hN]
                have HG := Lib.hid hG
                have HN64 := Lib.hid hN64
                clear hgf hdr hN hN64 hG hacc hdv hce
                try clear hi9
                try clear hi0
                try clear hc0
                go_wp2_with fail
                exact bodyPost_ret (v := .tuple #[.int .u64 N, .int .i64 ((i : Int) + 1), .int .i64 0]) (by simp [results, Tryz.results193, go_sem, HG.out]) rfl ⟨.inl ⟨N, i + 1, HGF.out, by simp, HN64.out⟩, rfl⟩
              · have k3 : ¬ (c : Int) < 128 := by omega
                have hG := getG2 acc d i hacc (by have : d * 2 ^ (7 * i) ≤ 1 * 2 ^ (7 * i) := Nat.mul_le_mul_right _ (by omega); rw [hi9] at this hacc ⊢; rw [show 2 ^ (7 * 9) = 9223372036854775808 from rfl] at *; omega)
                have HGF : Hid (getF 0 0 xs = getF (i + 1) (acc + d * 2 ^ (7 * i)) (xs.drop (i + 1))) := by
                  show _ = _
                  rw [hgf, hdr]
                  show (if _ then _ else _) = _
                  rw [hdv, if_neg (by omega), if_neg (by omega)]
                have HN2 : Hid (i + 1 ≤ 9 → acc + d * 2 ^ (7 * i) < 2 ^ (7 * (i + 1))) := fun h9 => by
                  have hp2 : 2 ^ (7 * (i + 1)) = 128 * 2 ^ (7 * i) := by rw [Nat.mul_add, Nat.pow_add]; omega
                  have hdb : d * 2 ^ (7 * i) ≤ 127 * 2 ^ (7 * i) := Nat.mul_le_mul_right _ (by omega)
                  rw [hp2]; omega
                have HG := Lib.hid hG
                obtain ⟨gj, rfl⟩ : ∃ x, gk = x + 1 := ⟨gk - 1, by omega⟩
                clear hgf hdr hG hacc hdv hce
                try clear hi9
                try clear hi0
                try clear hc0
                go_wp2_with fail
                go_roundg gj
                case measure => omega
                case rel => exact ⟨i + 1, _, by omega, by omega, by go_num, by rw [HG.out], rfl, HN2.out, HGF.out⟩
        · have h9 : ((i : Int) == 9) = false := beq_eq_false_iff_ne.2 (by omega)
          by_cases hi0 : i = 0
          · have h00 : ¬ (0 : Int) < (i : Int) := by omega
            by_cases hc1 : c < 128
            · have k3 : (c : Int) < 128 := by omega
              have hG := getG2 acc d i hacc (by have hp7 := pow7 i (by omega); have hdb : d * 2 ^ (7 * i) ≤ 127 * 2 ^ (7 * i) := Nat.mul_le_mul_right _ (by omega); omega)
              obtain ⟨N, hN⟩ : ∃ N, acc + d * 2 ^ (7 * i) = N := ⟨_, rfl⟩
              rw [hN] at hG
              have hN64 : N < 18446744073709551616 := by rw [← hN]; have hp7 := pow7 i (by omega); have hdb : d * 2 ^ (7 * i) ≤ 127 * 2 ^ (7 * i) := Nat.mul_le_mul_right _ (by omega); omega
              have HGF : Hid (getF 0 0 xs = some (N, i + 1)) := by
                show _ = _
                rw [hgf, hdr]
                show (if _ then _ else _) = _
                rw [hdv, if_neg (by omega), if_pos (by omega), hN]
              have HG := Lib.hid hG
              have HN64 := Lib.hid hN64
              clear hgf hdr hN hN64 hG hacc hdv hce
              try clear hi9
              try clear hi0
              try clear hc0
              go_wp2_with fail
              exact bodyPost_ret (v := .tuple #[.int .u64 N, .int .i64 ((i : Int) + 1), .int .i64 0]) (by simp [results, Tryz.results193, go_sem, HG.out]) rfl ⟨.inl ⟨N, i + 1, HGF.out, by simp, HN64.out⟩, rfl⟩
            · have k3 : ¬ (c : Int) < 128 := by omega
              have hG := getG2 acc d i hacc (by have hp7 := pow7 i (by omega); have hdb : d * 2 ^ (7 * i) ≤ 127 * 2 ^ (7 * i) := Nat.mul_le_mul_right _ (by omega); omega)
              have HGF : Hid (getF 0 0 xs = getF (i + 1) (acc + d * 2 ^ (7 * i)) (xs.drop (i + 1))) := by
                show _ = _
                rw [hgf, hdr]
                show (if _ then _ else _) = _
                rw [hdv, if_neg (by omega), if_neg (by omega)]
              have HN2 : Hid (i + 1 ≤ 9 → acc + d * 2 ^ (7 * i) < 2 ^ (7 * (i + 1))) := fun h9 => by
                have hp2 : 2 ^ (7 * (i + 1)) = 128 * 2 ^ (7 * i) := by rw [Nat.mul_add, Nat.pow_add]; omega
                have hdb : d * 2 ^ (7 * i) ≤ 127 * 2 ^ (7 * i) := Nat.mul_le_mul_right _ (by omega)
                rw [hp2]; omega
              have HG := Lib.hid hG
              obtain ⟨gj, rfl⟩ : ∃ x, gk = x + 1 := ⟨gk - 1, by omega⟩
              clear hgf hdr hG hacc hdv hce
              try clear hi9
              try clear hi0
              try clear hc0
              go_wp2_with fail
              go_roundg gj
              case measure => omega
              case rel => exact ⟨i + 1, _, by omega, by omega, by go_num, by rw [HG.out], rfl, HN2.out, HGF.out⟩
          · have h00 : (0 : Int) < (i : Int) := by omega
            by_cases hc0 : c = 0
            · have k2 : ((c : Int) == 0) = true := by rw [hc0]; rfl
              have HGF : Hid (getF 0 0 xs = none) := by
                show _ = _
                rw [hgf, hdr]
                show (if _ then _ else _) = _
                rw [hdv, if_pos (by omega)]
              clear hgf hdr hacc hdv hce
              try clear hi9
              try clear hi0
              try clear hc0
              go_wp2_with fail
              exact bodyPost_ret (v := .tuple #[.int .u64 0, .int .i64 0, .int .i64 103]) (by simp [results, Tryz.results193, go_sem]) rfl ⟨.inr ⟨HGF.out, 103, .inr rfl, rfl⟩, rfl⟩
            · have k2 : ((c : Int) == 0) = false := beq_eq_false_iff_ne.2 (by omega)
              by_cases hc1 : c < 128
              · have k3 : (c : Int) < 128 := by omega
                have hG := getG2 acc d i hacc (by have hp7 := pow7 i (by omega); have hdb : d * 2 ^ (7 * i) ≤ 127 * 2 ^ (7 * i) := Nat.mul_le_mul_right _ (by omega); omega)
                obtain ⟨N, hN⟩ : ∃ N, acc + d * 2 ^ (7 * i) = N := ⟨_, rfl⟩
                rw [hN] at hG
                have hN64 : N < 18446744073709551616 := by rw [← hN]; have hp7 := pow7 i (by omega); have hdb : d * 2 ^ (7 * i) ≤ 127 * 2 ^ (7 * i) := Nat.mul_le_mul_right _ (by omega); omega
                have HGF : Hid (getF 0 0 xs = some (N, i + 1)) := by
                  show _ = _
                  rw [hgf, hdr]
                  show (if _ then _ else _) = _
                  rw [hdv, if_neg (by omega), if_pos (by omega), hN]
                have HG := Lib.hid hG
                have HN64 := Lib.hid hN64
                clear hgf hdr hN hN64 hG hacc hdv hce
                try clear hi9
                try clear hi0
                try clear hc0
                go_wp2_with fail
                exact bodyPost_ret (v := .tuple #[.int .u64 N, .int .i64 ((i : Int) + 1), .int .i64 0]) (by simp [results, Tryz.results193, go_sem, HG.out]) rfl ⟨.inl ⟨N, i + 1, HGF.out, by simp, HN64.out⟩, rfl⟩
              · have k3 : ¬ (c : Int) < 128 := by omega
                have hG := getG2 acc d i hacc (by have hp7 := pow7 i (by omega); have hdb : d * 2 ^ (7 * i) ≤ 127 * 2 ^ (7 * i) := Nat.mul_le_mul_right _ (by omega); omega)
                have HGF : Hid (getF 0 0 xs = getF (i + 1) (acc + d * 2 ^ (7 * i)) (xs.drop (i + 1))) := by
                  show _ = _
                  rw [hgf, hdr]
                  show (if _ then _ else _) = _
                  rw [hdv, if_neg (by omega), if_neg (by omega)]
                have HN2 : Hid (i + 1 ≤ 9 → acc + d * 2 ^ (7 * i) < 2 ^ (7 * (i + 1))) := fun h9 => by
                  have hp2 : 2 ^ (7 * (i + 1)) = 128 * 2 ^ (7 * i) := by rw [Nat.mul_add, Nat.pow_add]; omega
                  have hdb : d * 2 ^ (7 * i) ≤ 127 * 2 ^ (7 * i) := Nat.mul_le_mul_right _ (by omega)
                  rw [hp2]; omega
                have HG := Lib.hid hG
                obtain ⟨gj, rfl⟩ : ∃ x, gk = x + 1 := ⟨gk - 1, by omega⟩
                clear hgf hdr hG hacc hdv hce
                try clear hi9
                try clear hi0
                try clear hc0
                go_wp2_with fail
                go_roundg gj
                case measure => omega
                case rel => exact ⟨i + 1, _, by omega, by omega, by go_num, by rw [HG.out], rfl, HN2.out, HGF.out⟩
      · have j1 : (n : Int) ≤ (i : Int) := by omega
        have HGF : Hid (getF 0 0 xs = none) := by
          show _ = _
          rw [hgf, List.drop_of_length_le (by rw [HN.out]; omega)]; rfl
        clear hgf hacc
        go_wp2_with fail
        exact bodyPost_ret (v := .tuple #[.int .u64 0, .int .i64 0, .int .i64 101]) (by simp [results, Tryz.results193, go_sem]) rfl ⟨.inr ⟨HGF.out, 101, .inl rfl, rfl⟩, rfl⟩
    · have j0 : ¬ (i : Int) < 10 := by omega
      have HGF : Hid (getF 0 0 xs = none) := by
        show _ = _
        rw [hgf]
        cases xs.drop i with
        | nil => rfl
        | cons c l =>
          show (if _ then _ else _) = _
          rw [if_pos (by omega)]
      clear hgf hacc
      go_wp2_with fail
      exact bodyPost_ret (v := .tuple #[.int .u64 0, .int .i64 0, .int .i64 103]) (by simp [results, Tryz.results193, go_sem]) rfl ⟨.inr ⟨HGF.out, 103, .inr rfl, rfl⟩, rfl⟩

theorem zag64 (N : Nat) (hN : N < 18446744073709551616) : bits .xor .i64 ((N : Int) / 2) (-((N : Int) % 2)) = zagN N := by
  unfold zagN
  split
  · rw [show -((N : Int) % 2) = 0 from by omega, show ((N : Int) / 2) = ((N / 2 : Nat) : Int) from by omega, xor_i64_0 _ (by omega)]
  · rw [show -((N : Int) % 2) = -1 from by omega, show ((N : Int) / 2) = ((N / 2 : Nat) : Int) from by omega, xor_i64_m1 _ (by omega)]
theorem zagN_range (N : Nat) (hN : N < 18446744073709551616) : -9223372036854775808 ≤ zagN N ∧ zagN N < 9223372036854775808 := by
  unfold zagN
  split <;> omega

def GetIR (o : Option (Nat × Nat)) (e : Ending) : Prop :=
  (∃ N k : Nat, o = some (N, k) ∧ e = .returned (.tuple #[.int .i64 (zagN N), .int .i64 k, .int .i64 0]) ∧ N < 18446744073709551616) ∨ (o = none ∧ ∃ c : Nat, (c = 101 ∨ c = 103) ∧ e = .returned (.tuple #[.int .i64 0, .int .i64 0, .int .i64 c]))
set_option maxRecDepth 100000 in
set_option maxHeartbeats 1000000 in
theorem rgetint_any (v : Value) (xs : List Nat) (w : World) (h : SlB w v xs) (hb : ∀ y ∈ xs, y < 256) :
    Calls Tryz.prog 169 #[v] w fun e w' => GetIR (getF 0 0 xs) e ∧ w = w' := by
  go_enter Tryz.func169, Tryz.ntmps169
  go_wp2_with fail
  refine (rget_any _ _ _ h hb).mono ?_
  rintro e w1 ⟨⟨N, k, ho, rfl, hN⟩ | ⟨ho, c, hc, rfl⟩, rfl⟩
  · obtain ⟨m, hm, hm1, hA, hZ⟩ : ∃ m : Int, 0 ≤ m ∧ m ≤ 1 ∧ bits .and .u64 ((N : Nat) : Int) 1 = m ∧ bits .xor .i64 ((N : Int) / 2) (-m) = zagN N := ⟨_, by omega, by omega, Lib.u64_and1 N (by omega) (by omega), zag64 N hN⟩
    obtain ⟨z, hz⟩ : ∃ z, zagN N = z := ⟨_, rfl⟩
    rw [hz] at hZ
    have HZ := Lib.hid hZ
    have HZZ := Lib.hid hz
    have HO := Lib.hid ho
    clear hZ hz ho
    go_wp2_with fail
    exact bodyPost_ret (v := .tuple #[.int .i64 z, .int .i64 k, .int .i64 0]) (by simp [results, Tryz.results169, go_sem, HZ.out]) rfl ⟨.inl ⟨N, k, HO.out, by rw [HZZ.out], hN⟩, rfl⟩
  · have hA : bits .and .u64 0 1 = 0 := by decide
    have HZ : Hid (bits .xor .i64 0 0 = 0) := by show _ = _; decide
    have HO := Lib.hid ho
    clear ho
    go_wp2_with fail
    exact bodyPost_ret (v := .tuple #[.int .i64 0, .int .i64 0, .int .i64 c]) (by simp [results, Tryz.results169, go_sem, HZ.out]) rfl ⟨.inr ⟨HO.out, c, hc, rfl⟩, rfl⟩
end Go.Proofs.YtncjffkpkmjgkaaGreatDoor.Sg

/-! Uj -/
namespace Go.Proofs.YtncjffkpkmjgkaaGreatDoor.Sg
open Go.RowKit Er Go.Maps

def rfF (v : Value) (p c : Nat) (pl : Bool) (ps : Nat) (i : Nat) : Value := if i = 0 then v else if i = 1 then .int .i64 p else if i = 2 then .int .i64 c else if i = 3 then .bool pl else .int .i64 ps
/-- A reader of the reference's, at a place, nothing amiss. -/
structure RfV (w : World) (r : Nat) (v : Value) (xs : List Nat) (p : Nat) : Prop where
  row : w.rowIs r 195 5 (rfF v p 0 false 0)
  sl : SlB w v xs
  ne : v.ownBlock ≠ some r
  le : p ≤ xs.length
  lt : xs.length ≤ 1099511627776
/-- One with an error. -/
structure RfE (w : World) (r : Nat) (v : Value) (xs : List Nat) : Prop where
  ex : ∃ (p c : Nat) (pl : Bool) (ps : Nat), w.rowIs r 195 5 (rfF v p c pl ps) ∧ c ≠ 0 ∧ p ≤ xs.length
  sl : SlB w v xs
  ne : v.ownBlock ≠ some r
  lt : xs.length ≤ 1099511627776
def RfA (w : World) (r : Nat) (v : Value) (xs : List Nat) : Prop := (∃ p, RfV w r v xs p) ∨ RfE w r v xs
/-- A reader's bytes: a row. -/
def VR (v : Value) (xs : List Nat) : Prop := ∃ g off cap, v = .slice (some ⟨g, off, none⟩) xs.length cap ∧ xs.length ≤ cap
/-- What a reading comes to: what was to be read, and a reader behind it; or a reader with an error. -/
def RfO {α : Type} (w : World) (r : Nat) (v : Value) (xs : List Nat) (o : Option (α × Nat)) (z : α) : Prop := match o with
  | some (z', q) => z = z' ∧ RfV w r v xs q
  | none => RfE w r v xs

theorem RfV.upd {M : List Nat} {w w' : World} {r p : Nat} {v : Value} {xs : List Nat} (h : RfV w r v xs p) (hu : Upd M w w') (hr : r ∉ M) (hne : ∀ k, k ∈ M → v.ownBlock ≠ some k) : RfV w' r v xs p :=
  ⟨h.row.of_block (hu.block r h.row.lt hr), h.sl.upd hu hne, h.ne, h.le, h.lt⟩
theorem RfE.upd {M : List Nat} {w w' : World} {r : Nat} {v : Value} {xs : List Nat} (h : RfE w r v xs) (hu : Upd M w w') (hr : r ∉ M) (hne : ∀ k, k ∈ M → v.ownBlock ≠ some k) : RfE w' r v xs := by
  obtain ⟨p, c, pl, ps, h1, h2⟩ := h.ex
  exact ⟨⟨p, c, pl, ps, h1.of_block (hu.block r h1.lt hr), h2⟩, h.sl.upd hu hne, h.ne, h.lt⟩
theorem RfV.below {B : Nat} {w w' : World} {r p : Nat} {v : Value} {xs : List Nat} (h : RfV w r v xs p) (hb : Below B w w') (hB : w.heap.size ≤ B) : RfV w' r v xs p :=
  h.upd (Upd.of_below (M := []) hb hB) (by simp) (by simp)
theorem RfE.below {B : Nat} {w w' : World} {r : Nat} {v : Value} {xs : List Nat} (h : RfE w r v xs) (hb : Below B w w') (hB : w.heap.size ≤ B) : RfE w' r v xs :=
  h.upd (Upd.of_below (M := []) hb hB) (by simp) (by simp)
theorem RfE.row_lt {w : World} {r : Nat} {v : Value} {xs : List Nat} (h : RfE w r v xs) : r < w.heap.size := by
  obtain ⟨p, c, pl, ps, h1, -⟩ := h.ex; exact h1.lt
theorem RfV.set {w : World} {r p : Nat} {v : Value} {xs : List Nat} (h : RfV w r v xs p) (q : Nat) (hq : q ≤ xs.length) : RfV (w.setCell ⟨r, 1, none⟩ (.int .i64 q)) r v xs q :=
  ⟨(h.row.set 1 _).congr (fun i hi => by rcases (show i = 0 ∨ i = 1 ∨ i = 2 ∨ i = 3 ∨ i = 4 by omega) with rfl | rfl | rfl | rfl | rfl <;> simp [rfF]), h.sl.grown (grownBy_set1 w r 1 _) (fun k hk => by cases hk; exact h.ne), h.ne, hq, h.lt⟩

section
variable {w : World} {r p : Nat} {v : Value} {xs : List Nat}
theorem RfV.c0 (h : RfV w r v xs p) : w.cell? ⟨r, 0, none⟩ = some v := h.row.cell (i := 0) (by omega)
theorem RfV.c1 (h : RfV w r v xs p) : w.cell? ⟨r, 1, none⟩ = some (.int .i64 p) := h.row.cell (i := 1) (by omega)
theorem RfV.c2 (h : RfV w r v xs p) : w.cell? ⟨r, 2, none⟩ = some (.int .i64 0) := h.row.cell (i := 2) (by omega)
set_option maxRecDepth 100000 in
theorem fine_at (r : Nat) (c : Nat) (w : World) (b : Bool) (hb : ((c : Int) == 0) = b) (c2 : w.cell? ⟨r, 2, none⟩ = some (.int .i64 c)) : Calls Tryz.prog 140 #[.pointer (some ⟨r, 0, none⟩)] w fun e w' => e = .returned (.bool b) ∧ w = w' := by
  go_enter Tryz.func140, Tryz.ntmps140
  go_wp2_with fail
  go_ret
  exact ⟨by first | rfl | rw [← hb], rfl⟩
theorem fine_v (h : RfV w r v xs p) : Calls Tryz.prog 140 #[.pointer (some ⟨r, 0, none⟩)] w fun e w' => e = .returned (.bool true) ∧ w = w' := fine_at r 0 w true rfl h.c2
theorem fine_e (h : RfE w r v xs) : Calls Tryz.prog 140 #[.pointer (some ⟨r, 0, none⟩)] w fun e w' => e = .returned (.bool false) ∧ w = w' := by
  obtain ⟨p, c, pl, ps, h1, h2, -⟩ := h.ex
  exact fine_at r c w false (beq_eq_false_iff_ne.2 (by omega)) (h1.cell (i := 2) (by omega))

set_option maxRecDepth 100000 in
theorem bare_any (c : Nat) (w : World) : Calls Tryz.prog 71 #[.int .i64 c] w fun e w' => e = .returned (.agg #[.int .i64 c, .bool false, .int .i64 0]) ∧ Below w.heap.size w w' := by
  go_enter Tryz.func71, Tryz.ntmps71
  go_wp2_with fail
  have g0 : (w.alloc (.cells #[.int .i64 c, .bool false, .int .i64 0] 124)).cell? ⟨w.heap.size, 0, none⟩ = some (.int .i64 c) := by go_simp
  have g1 : (w.alloc (.cells #[.int .i64 c, .bool false, .int .i64 0] 124)).cell? ⟨w.heap.size, 1, none⟩ = some (.bool false) := by go_simp
  have g2 : (w.alloc (.cells #[.int .i64 c, .bool false, .int .i64 0] 124)).cell? ⟨w.heap.size, 2, none⟩ = some (.int .i64 0) := by go_simp
  exact bodyPost_ret (v := .agg #[.int .i64 c, .bool false, .int .i64 0]) (by simp [results, Tryz.results71, go_sem, g0, g1, g2]) rfl ⟨rfl, (Below.refl _ _).alloc (Nat.le_refl _) _⟩
set_option maxRecDepth 100000 in
theorem placed_any (c q : Nat) (hc : c ≠ 0) (w : World) : Calls Tryz.prog 151 #[.int .i64 c, .int .i64 q] w fun e w' => e = .returned (.agg #[.int .i64 c, .bool true, .int .i64 q]) ∧ Below w.heap.size w w' := by
  have hc2 : ((c : Int) == 0) = false := beq_eq_false_iff_ne.2 (by omega)
  go_enter Tryz.func151, Tryz.ntmps151
  go_wp2_with fail
  have g0 : (w.alloc (.cells #[.int .i64 c, .bool true, .int .i64 q] 124)).cell? ⟨w.heap.size, 0, none⟩ = some (.int .i64 c) := by go_simp
  have g1 : (w.alloc (.cells #[.int .i64 c, .bool true, .int .i64 q] 124)).cell? ⟨w.heap.size, 1, none⟩ = some (.bool true) := by go_simp
  have g2 : (w.alloc (.cells #[.int .i64 c, .bool true, .int .i64 q] 124)).cell? ⟨w.heap.size, 2, none⟩ = some (.int .i64 q) := by go_simp
  exact bodyPost_ret (v := .agg #[.int .i64 c, .bool true, .int .i64 q]) (by simp [results, Tryz.results151, go_sem, g0, g1, g2]) rfl ⟨rfl, (Below.refl _ _).alloc (Nat.le_refl _) _⟩

set_option maxRecDepth 100000 in
set_option maxHeartbeats 1000000 in
/-- An error is noted. -/
theorem fail_any (c : Nat) (hc : c ≠ 0) (h : RfV w r v xs p) :
    Calls Tryz.prog 168 #[.pointer (some ⟨r, 0, none⟩), .int .i64 c] w fun e w' => e = .returned (.tuple #[]) ∧ RfE w' r v xs ∧ Upd [r] w w' := by
  have c1 := h.c1
  have HR := Lib.hid h
  have hfin : ∀ w2, Below w.heap.size w w2 → ∀ (pl : Bool) (ps : Nat), RfE (((w2.setCell ⟨r, 2, none⟩ (.int .i64 c)).setCell ⟨r, 3, none⟩ (.bool pl)).setCell ⟨r, 4, none⟩ (.int .i64 ps)) r v xs ∧ Upd [r] w (((w2.setCell ⟨r, 2, none⟩ (.int .i64 c)).setCell ⟨r, 3, none⟩ (.bool pl)).setCell ⟨r, 4, none⟩ (.int .i64 ps)) := fun w2 hb pl ps => by
    have hr2 := HR.out.below hb (Nat.le_refl _)
    have hrow := (((hr2.row.set 2 (.int .i64 c)).set 3 (.bool pl)).set 4 (.int .i64 ps)).congr (g := rfF v p c pl ps) (fun i hi => by rcases (show i = 0 ∨ i = 1 ∨ i = 2 ∨ i = 3 ∨ i = 4 by omega) with rfl | rfl | rfl | rfl | rfl <;> simp [rfF])
    have hu : Upd [r] w2 (((w2.setCell ⟨r, 2, none⟩ (.int .i64 c)).setCell ⟨r, 3, none⟩ (.bool pl)).setCell ⟨r, 4, none⟩ (.int .i64 ps)) := (((Upd.refl _ _).setCell _ _ _ (.inl (by simp))).setCell _ _ _ (.inl (by simp))).setCell _ _ _ (.inl (by simp))
    exact ⟨⟨⟨p, c, pl, ps, hrow, hc, hr2.le⟩, hr2.sl.upd hu (fun k hk => by simp at hk; rw [hk]; exact hr2.ne), hr2.ne, hr2.lt⟩, (Upd.of_below hb (Nat.le_refl _)).trans hu⟩
  have HFIN := Lib.hid hfin
  clear h hfin
  by_cases he : c = 101
  · have he2 : ((c : Int) == 101) = true := by rw [he]; rfl
    clear he
    go_enter Tryz.func168, Tryz.ntmps168
    go_wp2_with fail
    refine (bare_any c w).mono ?_
    rintro e w2 ⟨rfl, hb2⟩
    have hr2 := HR.out.below hb2 (Nat.le_refl _)
    have e2 := hr2.c2
    have e3 : w2.cell? ⟨r, 3, none⟩ = some (.bool false) := hr2.row.cell (i := 3) (by omega)
    have e4 : w2.cell? ⟨r, 4, none⟩ = some (.int .i64 0) := hr2.row.cell (i := 4) (by omega)
    have f2 := hr2.row.frozen 2
    have f3 := hr2.row.frozen 3
    have f4 := hr2.row.frozen 4
    have HF := Lib.hid (HFIN.out w2 hb2 false 0)
    clear hr2 hb2
    go_wp2_with fail
    refine bodyPost_ret (results_none rfl _ _ _) rfl ?_
    exact ⟨rfl, HF.out⟩
  · have he2 : ((c : Int) == 101) = false := beq_eq_false_iff_ne.2 (by omega)
    clear he
    go_enter Tryz.func168, Tryz.ntmps168
    go_wp2_with fail
    refine (placed_any c p hc w).mono ?_
    rintro e w2 ⟨rfl, hb2⟩
    have hr2 := HR.out.below hb2 (Nat.le_refl _)
    have e2 := hr2.c2
    have e3 : w2.cell? ⟨r, 3, none⟩ = some (.bool false) := hr2.row.cell (i := 3) (by omega)
    have e4 : w2.cell? ⟨r, 4, none⟩ = some (.int .i64 0) := hr2.row.cell (i := 4) (by omega)
    have f2 := hr2.row.frozen 2
    have f3 := hr2.row.frozen 3
    have f4 := hr2.row.frozen 4
    have HF := Lib.hid (HFIN.out w2 hb2 true p)
    clear hr2 hb2
    go_wp2_with fail
    go_end0
    exact ⟨rfl, HF.out⟩

def rdNum (xs : List Nat) (most p : Nat) : Option (Nat × Nat) := match getF 0 0 (xs.drop p) with
  | none => none
  | some (n, k) => if most < n then none else some (n, p + k)
theorem rgetint_one (v : Value) (xs : List Nat) (w : World) (h : SlB w v xs) (hb : ∀ y ∈ xs, y < 256) :
    Calls Tryz.prog 169 #[v] w fun e w' => (∃ (z : Int) (k c : Nat), e = .returned (.tuple #[.int .i64 z, .int .i64 k, .int .i64 c]) ∧ -9223372036854775808 ≤ z ∧ z < 9223372036854775808 ∧ ((c = 0 ∧ ∃ N, getF 0 0 xs = some (N, k) ∧ z = zagN N) ∨ ((c = 101 ∨ c = 103) ∧ getF 0 0 xs = none))) ∧ w = w' := by
  refine (rgetint_any v xs w h hb).mono ?_
  rintro e w' ⟨⟨N, k, h1, rfl, h2⟩ | ⟨h1, c, hc, rfl⟩, rfl⟩
  · have hz := zagN_range N h2
    exact ⟨⟨_, k, 0, rfl, hz.1, hz.2, .inl ⟨rfl, N, h1, rfl⟩⟩, rfl⟩
  · exact ⟨⟨0, 0, c, rfl, by omega, by omega, .inr ⟨hc, h1⟩⟩, rfl⟩
theorem rget_one (v : Value) (xs : List Nat) (w : World) (h : SlB w v xs) (hb : ∀ y ∈ xs, y < 256) :
    Calls Tryz.prog 193 #[v] w fun e w' => (∃ (z : Nat) (k c : Nat), e = .returned (.tuple #[.int .u64 z, .int .i64 k, .int .i64 c]) ∧ z < 18446744073709551616 ∧ ((c = 0 ∧ getF 0 0 xs = some (z, k)) ∨ ((c = 101 ∨ c = 103) ∧ getF 0 0 xs = none))) ∧ w = w' := by
  refine (rget_any v xs w h hb).mono ?_
  rintro e w' ⟨⟨N, k, h1, rfl, h2⟩ | ⟨h1, c, hc, rfl⟩, rfl⟩
  · exact ⟨⟨N, k, 0, rfl, h2, .inl ⟨rfl, h1⟩⟩, rfl⟩
  · exact ⟨⟨0, 0, c, rfl, by omega, .inr ⟨hc, h1⟩⟩, rfl⟩

set_option maxRecDepth 100000 in
theorem rint_e (a b : Int) (ha : a ≤ 0) (hb0 : 0 ≤ b) (h : RfE w r v xs) : Calls Tryz.prog 139 #[.pointer (some ⟨r, 0, none⟩), .int .i64 a, .int .i64 b] w fun e w' => (∃ z : Int, e = .returned (.int .i64 z) ∧ a ≤ z ∧ z ≤ b) ∧ w = w' := by
  have HF := Lib.hid (fine_e h)
  clear h
  go_enter Tryz.func139, Tryz.ntmps139
  go_wp2_with fail
  refine HF.out.mono ?_
  rintro e w' ⟨rfl, rfl⟩
  go_wp2_with fail
  go_ret
  exact ⟨⟨0, rfl, ha, hb0⟩, rfl⟩
set_option maxRecDepth 100000 in
set_option maxHeartbeats 4000000 in
theorem rint_v (a b : Int) (ha : a ≤ 0) (hb0 : 0 ≤ b) (hby : ∀ y ∈ xs, y < 256) (hv : VR v xs) (h : RfV w r v xs p) :
    Calls Tryz.prog 139 #[.pointer (some ⟨r, 0, none⟩), .int .i64 a, .int .i64 b] w fun e w' => (∃ z : Int, e = .returned (.int .i64 z) ∧ a ≤ z ∧ z ≤ b ∧ RfO w' r v xs (rdInt xs a b p) z) ∧ Upd [r] w w' := by
  have hle := h.le
  have hlt := h.lt
  have HR := Lib.hid h
  have HFV := Lib.hid (fine_v h)
  have hby2 : ∀ y ∈ xs.drop p, y < 256 := fun y hy => hby y (List.mem_of_mem_drop hy)
  have HBY := Lib.hid hby2
  have c0 := h.c0
  have c1 := h.c1
  have hf := h.row.frozen 1
  have HSL := Lib.hid h.sl
  have HDR : Hid ((xs.drop p).length = xs.length - p) := List.length_drop
  have HFL : Hid (∀ c, c ≠ 0 → ∀ wz, Below w.heap.size w wz → Calls Tryz.prog 168 #[.pointer (some ⟨r, 0, none⟩), .int .i64 ((c : Nat) : Int)] wz fun e w' => e = .returned (.tuple #[]) ∧ RfE w' r v xs ∧ Upd [r] w w') := fun c hc wz hz => by
    refine (fail_any (p := p) c hc (HR.out.below hz (Nat.le_refl _))).mono ?_
    rintro e w' ⟨rfl, q1, q2⟩
    exact ⟨rfl, q1, (Upd.of_below hz (Nat.le_refl _)).trans q2⟩
  obtain ⟨n, hn⟩ : ∃ n, xs.length = n := ⟨_, rfl⟩
  have HN' := Lib.hid hn
  obtain ⟨g, off, cap, hv1, hcap⟩ := hv
  rw [hn] at hle hlt hv1 hcap
  have hsl : SlB w (.slice (some ⟨g, off, none⟩) n cap) xs := by have := HSL.out; rw [hv1] at this; exact this
  rw [hv1] at c0
  clear hby2 h hn hv1
  have i1 : (0 : Int) ≤ (p : Int) := by omega
  have i2 : (p : Int) ≤ (n : Int) := by omega
  have i3 : (n : Int) ≤ (cap : Int) := by omega
  by_cases hcq : cap = p
  case' pos =>
    have hnp : n = p := by omega
    have HS : Hid (∀ wz, Below w.heap.size w wz → SlB wz (.slice (some ⟨g, off, none⟩) 0 0) (xs.drop p)) := fun wz hz => .inr (.inr ⟨_, 0, rfl, by rw [List.drop_of_length_le (by rw [HN'.out]; omega)]⟩)
    have hcq2 := hcq.symm
    clear hcq
    subst hcq2
    rw [hnp] at c0
    clear hsl hnp i2 i3 hcap
    go_enter Tryz.func139, Tryz.ntmps139
    go_wp2_with fail
    refine HFV.out.mono ?_
    rintro e w' ⟨rfl, rfl⟩
    go_wp2_with fail
    go_region_held3 (fun w' => w'.cell? ⟨r, 0, none⟩ = some (.slice (some ⟨g, off, none⟩) p p) ∧ w'.cell? ⟨r, 1, none⟩ = some (.int .i64 p)) (go_keep)
      (first
        | (with_reducible refine (rgetint_one _ _ _ ?_ HBY.out).mono ?_
           · exact HS.out _ (below_drewN (Below.refl _ _) _)
           rintro e w' ⟨⟨z, k, c, rfl, HZQ⟩, rfl⟩))
  case' neg =>
    have hs2 : SlB w (.slice (some ⟨g, off + p, none⟩) (n - p) (cap - p)) (xs.drop p) := by
      have := hsl.drop (p := p) (by rw [HN'.out]; omega) (m := n - p) (by rw [HN'.out]; omega) (cap - p) (by omega)
      rwa [List.take_of_length_le (by rw [HDR.out, HN'.out]; exact Nat.le_refl _)] at this
    have HS : Hid (∀ wz, Below w.heap.size w wz → SlB wz (.slice (some ⟨g, off + p, none⟩) (n - p) (cap - p)) (xs.drop p)) := fun wz hz => hs2.below hz rfl
    clear hsl hs2
    go_enter Tryz.func139, Tryz.ntmps139
    go_wp2_with fail
    refine HFV.out.mono ?_
    rintro e w' ⟨rfl, rfl⟩
    go_wp2_with fail
    go_region_held3 (fun w' => w'.cell? ⟨r, 0, none⟩ = some (.slice (some ⟨g, off, none⟩) n cap) ∧ w'.cell? ⟨r, 1, none⟩ = some (.int .i64 p)) (go_keep)
      (first
        | (with_reducible refine (rgetint_one _ _ _ ?_ HBY.out).mono ?_
           · exact HS.out _ (below_drewN (Below.refl _ _) _)
           rintro e w' ⟨⟨z, k, c, rfl, HZQ⟩, rfl⟩))
  all_goals
    obtain ⟨hz1, hz2, hor⟩ := HZQ
    rcases hor with ⟨rfl, N, hN, hzN⟩ | ⟨hc, hN⟩
    · rcases (show (¬ z < a ∧ ¬ b < z) ∨ z < a ∨ (¬ z < a ∧ b < z) by omega) with ⟨j1, j2⟩ | j1 | ⟨j1, j2⟩
      · have hkl := (getF_pos _ _ _ _ _ hN).2
        rw [HDR.out, HN'.out, Nat.zero_add] at hkl
        have HRD : Hid (rdInt xs a b p = some (z, p + k)) := by show _ = _; unfold rdInt; rw [hN]; show (if _ then _ else _) = _; rw [← hzN, if_neg (by omega)]
        clear hN hzN
        go_wp2_with fail
        go_ret
        rw [show ((p : Int) + (k : Int)) = ((p + k : Nat) : Int) from by omega]
        refine ⟨⟨z, rfl, by omega, by omega, ?_⟩, ?_⟩
        · rw [HRD.out]
          exact ⟨rfl, (HR.out.below (below_drewN (Below.refl _ _) _) (Nat.le_refl _)).set (p + k) (by rw [HN'.out]; omega)⟩
        · exact (Upd.of_below (M := [r]) (below_drewN (Below.refl _ _) _) (Nat.le_refl _)).setCell r 1 _ (.inl (by simp))
      · have HRD : Hid (rdInt xs a b p = none) := by show _ = _; unfold rdInt; rw [hN]; show (if _ then _ else _) = _; rw [← hzN, if_pos (by omega)]
        clear hN hzN
        go_wp2_with fail
        refine (HFL.out 105 (by omega) _ ?_).mono ?_
        · first | exact below_drewN (Below.refl _ _) _ | exact (Below.refl _ _).drew
        rintro e w' ⟨rfl, q1, q2⟩
        have Q1 := Lib.hid q1
        have Q2 := Lib.hid q2
        clear q1 q2
        go_wp2_with fail
        go_ret
        refine ⟨⟨0, rfl, ha, hb0, ?_⟩, Q2.out⟩
        rw [HRD.out]; exact Q1.out
      · have HRD : Hid (rdInt xs a b p = none) := by show _ = _; unfold rdInt; rw [hN]; show (if _ then _ else _) = _; rw [← hzN, if_pos (by omega)]
        clear hN hzN
        go_wp2_with fail
        refine (HFL.out 105 (by omega) _ ?_).mono ?_
        · first | exact below_drewN (Below.refl _ _) _ | exact (Below.refl _ _).drew
        rintro e w' ⟨rfl, q1, q2⟩
        have Q1 := Lib.hid q1
        have Q2 := Lib.hid q2
        clear q1 q2
        go_wp2_with fail
        go_ret
        refine ⟨⟨0, rfl, ha, hb0, ?_⟩, Q2.out⟩
        rw [HRD.out]; exact Q1.out
    · have HRD : Hid (rdInt xs a b p = none) := by show _ = _; unfold rdInt; rw [hN]
      have hc0 : ((c : Int) == 0) = false := beq_eq_false_iff_ne.2 (by omega)
      have hc1 : ¬ c = 0 := by omega
      clear hN
      go_wp2_with fail
      refine (HFL.out c (by omega) _ ?_).mono ?_
      · first | exact below_drewN (Below.refl _ _) _ | exact (Below.refl _ _).drew
      rintro e w' ⟨rfl, q1, q2⟩
      have Q1 := Lib.hid q1
      have Q2 := Lib.hid q2
      clear q1 q2
      go_wp2_with fail
      go_ret
      refine ⟨⟨0, rfl, ha, hb0, ?_⟩, Q2.out⟩
      rw [HRD.out]; exact Q1.out

set_option maxRecDepth 100000 in
theorem rnum_e (most : Nat) (h : RfE w r v xs) : Calls Tryz.prog 170 #[.pointer (some ⟨r, 0, none⟩), .int .u64 most] w fun e w' => (∃ z : Nat, e = .returned (.int .u64 z) ∧ z ≤ most) ∧ w = w' := by
  have HF := Lib.hid (fine_e h)
  clear h
  go_enter Tryz.func170, Tryz.ntmps170
  go_wp2_with fail
  refine HF.out.mono ?_
  rintro e w' ⟨rfl, rfl⟩
  go_wp2_with fail
  go_ret
  exact ⟨⟨0, rfl, Nat.zero_le _⟩, rfl⟩
set_option maxRecDepth 100000 in
set_option maxHeartbeats 4000000 in
theorem rnum_v (most : Nat) (hby : ∀ y ∈ xs, y < 256) (hv : VR v xs) (h : RfV w r v xs p) :
    Calls Tryz.prog 170 #[.pointer (some ⟨r, 0, none⟩), .int .u64 most] w fun e w' => (∃ z : Nat, e = .returned (.int .u64 z) ∧ z ≤ most ∧ RfO w' r v xs (rdNum xs most p) z) ∧ Upd [r] w w' := by
  have hle := h.le
  have hlt := h.lt
  have HR := Lib.hid h
  have HFV := Lib.hid (fine_v h)
  have hby2 : ∀ y ∈ xs.drop p, y < 256 := fun y hy => hby y (List.mem_of_mem_drop hy)
  have HBY := Lib.hid hby2
  have c0 := h.c0
  have c1 := h.c1
  have hf := h.row.frozen 1
  have HSL := Lib.hid h.sl
  have HDR : Hid ((xs.drop p).length = xs.length - p) := List.length_drop
  have HFL : Hid (∀ c, c ≠ 0 → ∀ wz, Below w.heap.size w wz → Calls Tryz.prog 168 #[.pointer (some ⟨r, 0, none⟩), .int .i64 ((c : Nat) : Int)] wz fun e w' => e = .returned (.tuple #[]) ∧ RfE w' r v xs ∧ Upd [r] w w') := fun c hc wz hz => by
    refine (fail_any (p := p) c hc (HR.out.below hz (Nat.le_refl _))).mono ?_
    rintro e w' ⟨rfl, q1, q2⟩
    exact ⟨rfl, q1, (Upd.of_below hz (Nat.le_refl _)).trans q2⟩
  obtain ⟨n, hn⟩ : ∃ n, xs.length = n := ⟨_, rfl⟩
  have HN' := Lib.hid hn
  obtain ⟨g, off, cap, hv1, hcap⟩ := hv
  rw [hn] at hle hlt hv1 hcap
  have hsl : SlB w (.slice (some ⟨g, off, none⟩) n cap) xs := by have := HSL.out; rw [hv1] at this; exact this
  rw [hv1] at c0
  clear hby2 h hn hv1
  have i1 : (0 : Int) ≤ (p : Int) := by omega
  have i2 : (p : Int) ≤ (n : Int) := by omega
  have i3 : (n : Int) ≤ (cap : Int) := by omega
  by_cases hcq : cap = p
  case' pos =>
    have hnp : n = p := by omega
    have HS : Hid (∀ wz, Below w.heap.size w wz → SlB wz (.slice (some ⟨g, off, none⟩) 0 0) (xs.drop p)) := fun wz hz => .inr (.inr ⟨_, 0, rfl, by rw [List.drop_of_length_le (by rw [HN'.out]; omega)]⟩)
    have hcq2 := hcq.symm
    clear hcq
    subst hcq2
    rw [hnp] at c0
    clear hsl hnp i2 i3 hcap
    go_enter Tryz.func170, Tryz.ntmps170
    go_wp2_with fail
    refine HFV.out.mono ?_
    rintro e w' ⟨rfl, rfl⟩
    go_wp2_with fail
    go_region_held3 (fun w' => w'.cell? ⟨r, 0, none⟩ = some (.slice (some ⟨g, off, none⟩) p p) ∧ w'.cell? ⟨r, 1, none⟩ = some (.int .i64 p)) (go_keep)
      (first
        | (with_reducible refine (rget_one _ _ _ ?_ HBY.out).mono ?_
           · exact HS.out _ (below_drewN (Below.refl _ _) _)
           rintro e w' ⟨⟨z, k, c, rfl, HZQ⟩, rfl⟩))
  case' neg =>
    have hs2 : SlB w (.slice (some ⟨g, off + p, none⟩) (n - p) (cap - p)) (xs.drop p) := by
      have := hsl.drop (p := p) (by rw [HN'.out]; omega) (m := n - p) (by rw [HN'.out]; omega) (cap - p) (by omega)
      rwa [List.take_of_length_le (by rw [HDR.out, HN'.out]; exact Nat.le_refl _)] at this
    have HS : Hid (∀ wz, Below w.heap.size w wz → SlB wz (.slice (some ⟨g, off + p, none⟩) (n - p) (cap - p)) (xs.drop p)) := fun wz hz => hs2.below hz rfl
    clear hsl hs2
    go_enter Tryz.func170, Tryz.ntmps170
    go_wp2_with fail
    refine HFV.out.mono ?_
    rintro e w' ⟨rfl, rfl⟩
    go_wp2_with fail
    go_region_held3 (fun w' => w'.cell? ⟨r, 0, none⟩ = some (.slice (some ⟨g, off, none⟩) n cap) ∧ w'.cell? ⟨r, 1, none⟩ = some (.int .i64 p)) (go_keep)
      (first
        | (with_reducible refine (rget_one _ _ _ ?_ HBY.out).mono ?_
           · exact HS.out _ (below_drewN (Below.refl _ _) _)
           rintro e w' ⟨⟨z, k, c, rfl, HZQ⟩, rfl⟩))
  all_goals
    obtain ⟨hz2, hor⟩ := HZQ
    rcases hor with ⟨rfl, hN⟩ | ⟨hc, hN⟩
    · rcases (show (¬ (most : Int) < (z : Int)) ∨ (most : Int) < (z : Int) by omega) with j1 | j1
      · have hkl := (getF_pos _ _ _ _ _ hN).2
        rw [HDR.out, HN'.out, Nat.zero_add] at hkl
        have HRD : Hid (rdNum xs most p = some (z, p + k)) := by show _ = _; unfold rdNum; rw [hN]; show (if _ then _ else _) = _; rw [if_neg (by omega)]
        clear hN
        go_wp2_with fail
        go_ret
        rw [show ((p : Int) + (k : Int)) = ((p + k : Nat) : Int) from by omega]
        refine ⟨⟨z, rfl, by omega, ?_⟩, ?_⟩
        · rw [HRD.out]
          exact ⟨rfl, (HR.out.below (below_drewN (Below.refl _ _) _) (Nat.le_refl _)).set (p + k) (by rw [HN'.out]; omega)⟩
        · exact (Upd.of_below (M := [r]) (below_drewN (Below.refl _ _) _) (Nat.le_refl _)).setCell r 1 _ (.inl (by simp))
      · have HRD : Hid (rdNum xs most p = none) := by show _ = _; unfold rdNum; rw [hN]; show (if _ then _ else _) = _; rw [if_pos (by omega)]
        clear hN
        go_wp2_with fail
        refine (HFL.out 105 (by omega) _ ?_).mono ?_
        · first | exact below_drewN (Below.refl _ _) _ | exact (Below.refl _ _).drew
        rintro e w' ⟨rfl, q1, q2⟩
        have Q1 := Lib.hid q1
        have Q2 := Lib.hid q2
        clear q1 q2
        go_wp2_with fail
        go_ret
        refine ⟨⟨0, rfl, Nat.zero_le _, ?_⟩, Q2.out⟩
        rw [HRD.out]; exact Q1.out
    · have HRD : Hid (rdNum xs most p = none) := by show _ = _; unfold rdNum; rw [hN]
      have hc0 : ((c : Int) == 0) = false := beq_eq_false_iff_ne.2 (by omega)
      have hc1 : ¬ c = 0 := by omega
      clear hN
      go_wp2_with fail
      refine (HFL.out c (by omega) _ ?_).mono ?_
      · first | exact below_drewN (Below.refl _ _) _ | exact (Below.refl _ _).drew
      rintro e w' ⟨rfl, q1, q2⟩
      have Q1 := Lib.hid q1
      have Q2 := Lib.hid q2
      clear q1 q2
      go_wp2_with fail
      go_ret
      refine ⟨⟨0, rfl, Nat.zero_le _, ?_⟩, Q2.out⟩
      rw [HRD.out]; exact Q1.out
end
end Go.Proofs.YtncjffkpkmjgkaaGreatDoor.Sg

/-! Uk -/
namespace Go.Proofs.YtncjffkpkmjgkaaGreatDoor.Sg
open Go.RowKit Er Go.Maps

set_option maxRecDepth 100000 in
set_option maxHeartbeats 1000000 in
theorem cbytes_any (v : Value) (xs : List Nat) (w : World) (h : SlB w v xs) (hl : xs.length ≤ 1099511627776) :
    Calls Tryz.prog 171 #[v] w fun e w' => (∃ v', e = .returned v' ∧ w'.ownsRow w.heap.size 5 1 v' xs.length (bcells xs)) ∧ Below w.heap.size w w' := by
  have H0 := Lib.hid h
  obtain ⟨va, vc, rfl, -⟩ := h.shape
  obtain ⟨n, hn⟩ : ∃ n, xs.length = n := ⟨_, rfl⟩
  have HN := Lib.hid hn
  rw [hn] at hl ⊢
  obtain ⟨iu, hiu, hu0, hu1, hu2⟩ := info_parts infoU8
  obtain ⟨w2, hrun, hown0, hgrow0⟩ := run_make_own (P := Tryz.prog) w w.heap.size 22 5 iu (.int .u8 0) 1 Tryz.underlying22 hiu hu0 hu1 .i64 .i64 n (by rw [hu2]; omega) (by unfold maxLen; omega) (Nat.le_refl _)
  have HO0 := Lib.hid hown0
  have HB0 := Lib.hid ((Below.refl w.heap.size w).grown hgrow0 (Nat.le_refl _) (fun k hk => by cases hk))
  clear h hn hown0 hgrow0 hiu hu0 hu1 hu2
  go_enter Tryz.func171, Tryz.ntmps171
  go_wp2_with fail
  go_loopg [3, 4] n (fun m u j wr => ∃ k : Nat, k + m = n ∧ j = .int .i64 k ∧ wr.ownsRow w.heap.size 5 1 u k (bcells (xs.take k)) ∧ Below w.heap.size w wr)
  case atStart => exact ⟨0, by omega, rfl, HO0.out, HB0.out⟩
  case round =>
    obtain ⟨k, hk, rfl, hown, hb⟩ := hrel
    by_cases hlt : k < n
    · have hx : k < xs.length := by rw [HN.out]; exact hlt
      obtain ⟨g, off, cap, hvv, -, hc⟩ := slB_cell (H0.out.below hb rfl) hx
      rw [HN.out] at hvv
      cases hvv
      obtain ⟨c, hce⟩ : ∃ c, xs[k] = c := ⟨_, rfl⟩
      rw [hce] at hc
      have hy := slB_new wr [c] 5
      rw [bcells_one] at hy
      have htk : xs.take (k + 1) = xs.take k ++ [c] := by rw [List.take_add_one, List.getElem?_eq_getElem hx, hce]; rfl
      have HTK := Lib.hid htk
      have HY := Lib.hid hy
      have HO2 := Lib.hid hown
      have hsz := hb.size
      have HB := Lib.hid hb
      have j1 : (0 : Int) ≤ (k : Int) := by omega
      have j2 : (k : Int) < (n : Int) := by omega
      clear hy hown hb hce htk hx
      obtain ⟨gj, rfl⟩ : ∃ x, gk = x + 1 := ⟨gk - 1, by omega⟩
      go_wp2_with (at_builtin; refine wpList_append_bytes rfl _ _ rfl w.heap.size _ _ _ rfl (HO2.out.alloc _) _ _ rfl HY.out ?c3 ?c5 ?_)
      case c3 => simp; omega
      case c5 => simp; omega
      intro v2 w4 hown' hgrow _ hat
      have hb4 := (HB.out.alloc hsz (.cells #[.int .u8 c] 5)).grown hgrow (by simp; omega) (own_fresh HO2.out)
      have hown2 : w4.ownsRow w.heap.size 5 1 v2 (k + 1) (bcells (xs.take (k + 1))) := by
        rw [HTK.out]; exact hown'
      have HO4 := Lib.hid hown2
      have HB4 := Lib.hid hb4
      clear hown' hown2 hgrow hat hb4
      go_wp2_with fail
      go_roundg gj
      case measure => omega
      case rel => exact ⟨k + 1, by omega, by go_num, HO4.out, HB4.out⟩
    · obtain rfl : k = n := by omega
      have htk : xs.take k = xs := List.take_of_length_le (by rw [HN.out]; exact Nat.le_refl _)
      rw [htk] at hown
      have HO2 := Lib.hid hown
      have HB := Lib.hid hb
      clear hown hb htk
      go_wp2_with fail
      go_ret
      exact ⟨⟨_, rfl, HO2.out⟩, HB.out⟩

set_option maxRecDepth 100000 in
set_option maxHeartbeats 1000000 in
theorem rfixed_any (v : Value) (ys : List Nat) (w : World) (h : SlB w v ys) (hyb : ∀ y ∈ ys, y < 256) (hy8 : ys.length ≤ 8) :
    Calls Tryz.prog 101 #[v] w fun e w' => e = .returned (.int .u64 (leV ys)) ∧ w = w' := by
  have HSL := Lib.hid h
  obtain ⟨va, vc, rfl, -⟩ := h.shape
  obtain ⟨n, hn⟩ : ∃ n, ys.length = n := ⟨_, rfl⟩
  have HN := Lib.hid hn
  rw [hn] at hy8 ⊢
  clear h hn
  go_enter Tryz.func101, Tryz.ntmps101
  go_wp2_with fail
  go_loopg [3, 4] n (fun m q j wr => ∃ k : Nat, k + m = n ∧ j = .int .i64 k ∧ q = .int .u64 (leV (ys.take k)) ∧ wr = w)
  case atStart => exact ⟨0, by omega, rfl, rfl, rfl⟩
  case round =>
    obtain ⟨k, hk, rfl, rfl, rfl⟩ := hrel
    by_cases hltn : k < n
    · have hlt : k < ys.length := by rw [HN.out]; exact hltn
      obtain ⟨g1, off1, cap1, hv1, -, hc⟩ := slB_cell HSL.out hlt
      rw [HN.out] at hv1
      cases hv1
      have hc256 : ys[k] < 256 := hyb _ (List.getElem_mem hlt)
      have hacc := leV_lt (ys.take k) (fun y hy => hyb y (List.mem_of_mem_take hy))
      rw [show (ys.take k).length = k by simp; omega] at hacc
      have hnx : leV (ys.take (k + 1)) = leV (ys.take k) + ys[k] * 2 ^ (8 * k) := by
        rw [List.take_add_one, List.getElem?_eq_getElem hlt, Option.toList_some, leV_snoc, show (ys.take k).length = k by simp; omega]
      have hb64 := leV_lt (ys.take (k + 1)) (fun y hy => hyb y (List.mem_of_mem_take hy))
      rw [show (ys.take (k + 1)).length = k + 1 by simp; omega, hnx] at hb64
      have h64 : (2 : Nat) ^ (8 * (k + 1)) ≤ 2 ^ 64 := Nat.pow_le_pow_right (by omega) (by omega)
      have hG := fixG (leV (ys.take k)) ys[k] k hacc (by omega)
      rw [← hnx] at hG
      obtain ⟨c, hce⟩ : ∃ c, ys[k] = c := ⟨_, rfl⟩
      rw [hce] at hG hc hc256
      obtain ⟨acc, hac⟩ : ∃ a, leV (ys.take k) = a := ⟨_, rfl⟩
      obtain ⟨acc2, hac2⟩ : ∃ a, leV (ys.take (k + 1)) = a := ⟨_, rfl⟩
      rw [hac, hac2] at hG
      rw [hac]
      have HG := Lib.hid hG
      have HAC := Lib.hid hac2
      have i11 : (k : Int) < 8 := by omega
      have i12 : (k : Int) < (n : Int) := by omega
      have i13 : (0 : Int) ≤ (k : Int) := by omega
      obtain ⟨gj, rfl⟩ : ∃ x, gk = x + 1 := ⟨gk - 1, by omega⟩
      clear hG hnx hacc hb64 h64 hce hac hac2 hlt
      go_wp2_with fail
      go_roundg gj
      case measure => omega
      case rel => exact ⟨k + 1, by omega, by go_num, by rw [HG.out, HAC.out], rfl⟩
    · obtain rfl : k = n := by omega
      have htk : ys.take k = ys := List.take_of_length_le (by rw [HN.out]; exact Nat.le_refl _)
      rw [htk]
      obtain ⟨z, hz⟩ : ∃ z, leV ys = z := ⟨_, rfl⟩
      rw [hz]
      have HZ := Lib.hid hz
      clear htk hz
      go_wp2_with fail
      go_ret
      exact ⟨by rw [HZ.out]; rfl, rfl⟩

def rdBy2 (xs : List Nat) (o : Option (Nat × Nat)) : Option (List Nat × Nat) := match o with
  | none => none
  | some (n, q) => if xs.length - q < n then none else some ((xs.drop q).take n, q + n)
theorem rdBy_num (xs : List Nat) (most p : Nat) : rdBy xs most p = rdBy2 xs (rdNum xs most p) := by
  unfold rdBy rdNum rdBy2
  cases getF 0 0 (xs.drop p) with
  | none => rfl
  | some q =>
    obtain ⟨n, k⟩ := q
    dsimp only
    by_cases h : most < n
    · rw [if_pos (.inl h), if_pos h]
    · rw [if_neg h]
      dsimp only
      by_cases h2 : xs.length - (p + k) < n
      · rw [if_pos (.inr h2), if_pos h2]
      · rw [if_neg (by omega), if_neg h2]

section
variable {w : World} {r p : Nat} {v : Value} {xs : List Nat}
/-- What Bytes comes to. -/
def RfB (w' : World) (b0 r : Nat) (v : Value) (xs : List Nat) (o : Option (List Nat × Nat)) (e : Ending) : Prop := ∃ (ys : List Nat) (a : Option Addr) (c : Nat), e = .returned (.slice a ys.length c) ∧ w'.ownsRow b0 5 1 (.slice a ys.length c) ys.length (bcells ys) ∧ ys.length ≤ 512 ∧ (∀ y ∈ ys, y < 256) ∧ RfO w' r v xs o ys
set_option maxRecDepth 100000 in
set_option maxHeartbeats 400000 in
theorem rbytes_e (most : Nat) (hmm : most ≤ 512) (h : RfE w r v xs) :
    Calls Tryz.prog 141 #[.pointer (some ⟨r, 0, none⟩), .int .i64 most] w fun e w' => e = .returned (.slice none 0 0) ∧ w = w' := by
  have HR := Lib.hid h
  obtain ⟨p, c, pl, ps, h1, -, -⟩ := h.ex
  have c1 := h1.cell (i := 1) (by omega)
  rw [show rfF v p c pl ps 1 = .int .i64 p from rfl] at c1
  clear h h1
  go_enter Tryz.func141, Tryz.ntmps141
  go_wp2_with fail
  refine (rnum_e most HR.out).mono ?_
  rintro e w' ⟨⟨z, rfl, hz⟩, rfl⟩
  go_wp2_with fail
  refine (fine_e HR.out).mono ?_
  rintro e w' ⟨rfl, rfl⟩
  go_wp2_with fail
  go_ret
  exact ⟨rfl, rfl⟩
set_option maxRecDepth 100000 in
set_option maxHeartbeats 4000000 in
theorem rbytes_v (most : Nat) (hmm : most ≤ 512) (hby : ∀ y ∈ xs, y < 256) (hv : VR v xs) (h : RfV w r v xs p) :
    Calls Tryz.prog 141 #[.pointer (some ⟨r, 0, none⟩), .int .i64 most] w fun e w' => RfB w' w.heap.size r v xs (rdBy xs most p) e ∧ Upd [r] w w' := by
  have c1 := h.c1
  have hle0 := h.le
  have HR := Lib.hid h
  have HV := Lib.hid hv
  have HBY := Lib.hid hby
  rw [rdBy_num]
  clear h hv hby
  go_enter Tryz.func141, Tryz.ntmps141
  go_wp2_with fail
  refine (rnum_v most HBY.out HV.out HR.out).mono ?_
  rintro e w1 ⟨⟨z, rfl, hz, hra⟩, hu1⟩
  obtain ⟨o, ho⟩ : ∃ o, rdNum xs most p = o := ⟨_, rfl⟩
  rw [ho] at hra
  cases o with
  | none =>
    have hre : RfE w1 r v xs := hra
    have HF := Lib.hid (fine_e hre)
    have HRE := Lib.hid hre
    have HU1 := Lib.hid hu1
    have HOO := Lib.hid ho
    clear hre hu1 hra ho c1
    go_wp2_with fail
    refine HF.out.mono ?_
    rintro e w' ⟨rfl, rfl⟩
    go_wp2_with fail
    go_ret
    refine ⟨⟨[], none, 0, rfl, World.ownsRow_nil _ _ _ _, Nat.zero_le _, by simp, ?_⟩, HU1.out⟩
    rw [HOO.out]; exact HRE.out
  | some qq =>
    obtain ⟨z', q⟩ := qq
    obtain ⟨hzz, hr1⟩ : z = z' ∧ RfV w1 r v xs q := hra
    subst hzz
    have hql := hr1.le
    have hxl := hr1.lt
    have d0 := hr1.c0
    have d1 := hr1.c1
    have fr1 := hr1.row.frozen 1
    have HF := Lib.hid (fine_v hr1)
    have HR1 := Lib.hid hr1
    have HU1 := Lib.hid hu1
    have HOO := Lib.hid ho
    obtain ⟨g, off, cap, hv1, hcap⟩ := HV.out
    rw [hv1] at d0
    obtain ⟨n, hn⟩ : ∃ n, xs.length = n := ⟨_, rfl⟩
    have HN := Lib.hid hn
    rw [hn] at hql hxl d0 hcap
    have HV1 := Lib.hid hv1
    have hsl1 := hr1.sl
    rw [hv1, hn] at hsl1
    have HSL1 := Lib.hid hsl1
    have hzn : n - q < z ∨ z ≤ n - q := by omega
    have w1' : IntKind.i64.wrap ((n : Int) - (q : Int)) = (n : Int) - (q : Int) := IntWalk.i64_in _ (by omega)
    have w2' : IntKind.i64.wrap (z : Int) = (z : Int) := IntWalk.i64_in _ (by omega)
    clear hr1 hu1 ho c1 hv1 hn hsl1
    rcases hzn with hzl | hzl
    · have i5 : ((n : Int) - (q : Int)) < (z : Int) := by omega
      go_wp2_with fail
      refine HF.out.mono ?_
      rintro e w' ⟨rfl, rfl⟩
      go_wp2_with fail
      go_quiet (fail)
      have hr2 := (HR1.out.below (B := w1.heap.size) (below_drewN (Below.refl _ _) nq) (Nat.le_refl _)).set p hle0
      have hu2 : Upd [r] w ((w1.drewN nq).setCell ⟨r, 1, none⟩ (.int .i64 p)) := (HU1.out.drewN nq).setCell _ _ _ (.inl (by simp))
      have HFA := Lib.hid (fail_any 101 (by decide) hr2)
      have HU2 := Lib.hid hu2
      clear hr2 hu2
      go_wp2_with fail
      refine HFA.out.mono ?_
      rintro e w3 ⟨rfl, q1, q2⟩
      have Q1 := Lib.hid q1
      have Q2 := Lib.hid (HU2.out.trans q2)
      clear q1 q2
      go_wp2_with fail
      go_ret
      refine ⟨⟨[], none, 0, rfl, World.ownsRow_nil _ _ _ _, Nat.zero_le _, by simp, ?_⟩, Q2.out⟩
      rw [HOO.out]
      show RfO _ _ _ _ (if _ then _ else _) _
      rw [if_pos (by rw [HN.out]; omega)]
      exact Q1.out
    · have i5 : ¬ ((n : Int) - (q : Int)) < (z : Int) := by omega
      obtain ⟨ys, hys⟩ : ∃ ys, (xs.drop q).take z = ys := ⟨_, rfl⟩
      have hyl : ys.length = z := by rw [← hys, List.length_take, List.length_drop, HN.out]; omega
      have hyb : ∀ y ∈ ys, y < 256 := fun y hy => HBY.out y (List.mem_of_mem_drop (List.mem_of_mem_take (by rw [hys]; exact hy)))
      have HYB := Lib.hid hyb
      have HYS := Lib.hid hys
      have HYL := Lib.hid hyl
      clear hyb hys hyl
      go_wp2_with fail
      refine HF.out.mono ?_
      rintro e w' ⟨rfl, rfl⟩
      go_wp2_with fail
      go_quiet (fail)
      go_upto_region 10 with fail
      have hset := (HR1.out.below (B := w1.heap.size) (below_drewN (Below.refl _ _) nq) (Nat.le_refl _)).set (q + z) (by rw [HN.out]; omega)
      rw [show ((q + z : Nat) : Int) = (q : Int) + (z : Int) from by omega] at hset
      have hu3 : Upd [r] w ((w1.drewN nq).setCell ⟨r, 1, none⟩ (.int .i64 ((q : Int) + (z : Int)))) := (HU1.out.drewN nq).setCell r 1 (.int .i64 ((q : Int) + (z : Int))) (.inl (by simp))
      generalize hw3 : (w1.drewN nq).setCell ⟨r, 1, none⟩ (.int .i64 ((q : Int) + (z : Int))) = w3
      rw [hw3] at hset hu3
      have HR3 := Lib.hid hset
      have HU3 := Lib.hid hu3
      have e0 := hset.c0
      have e1 := hset.c1
      rw [show ((q + z : Nat) : Int) = (q : Int) + (z : Int) from by omega] at e1
      have hr3 := hset.row.lt
      have hsz3 := hu3.size
      have hsl3 := hset.sl
      rw [HV1.out, HN.out] at hsl3
      rw [HV1.out, HN.out] at e0
      have i0 : (0 : Int) ≤ (q : Int) + (z : Int) := by omega
      have i1 : (0 : Int) ≤ (q : Int) := by omega
      have i2 : (q : Int) ≤ (q : Int) + (z : Int) := by omega
      have i7 : (q : Int) + (z : Int) ≤ (cap : Int) := by omega
      have i9 : IntKind.i64.wrap (q : Int) = (q : Int) := by rw [IntKind.wrap_i64]; omega
      have i8 : ((q : Int) + (z : Int)).toNat = q + z := by omega
      have HFIN : Hid (∀ wz, RfV wz r v xs (q + z) → RfO wz r v xs (rdBy2 xs (rdNum xs most p)) ys) := fun wz hx => by
        rw [HOO.out]
        show RfO _ _ _ _ (if _ then _ else _) _
        rw [if_neg (by rw [HN.out]; omega)]
        exact ⟨HYS.out.symm, hx⟩
      clear hset hw3 hu3 d0 d1 i5
      by_cases hcq : cap = q
      · have hz0 : z = 0 := by omega
        have hnq : n = q := by omega
        have HY0 : Hid (ys = []) := List.eq_nil_of_length_eq_zero (by rw [HYL.out, hz0])
        rw [hnq] at e0
        have hcq2 := hcq.symm
        subst hz0
        clear hcq
        subst hcq2
        simp only [Int.natCast_zero, Int.add_zero] at e1
        have j1 : (0 : Int) ≤ (q : Int) := by omega
        have j2 : IntKind.i64.wrap 0 = 0 := by decide
        have HS : Hid (∀ wz, Below w3.heap.size w3 wz → SlB wz (.slice (some ⟨g, off, none⟩) 0 0) []) := fun wz hz => .inr (.inr ⟨_, 0, rfl, rfl⟩)
        clear i0 i1 i2 i7 i8 hsl3 hcap hnq w1' w2'
        go_region_held3 (fun w' => w'.cell? ⟨r, 0, none⟩ = some (.slice (some ⟨g, off, none⟩) q q) ∧ w'.cell? ⟨r, 1, none⟩ = some (.int .i64 (q : Int)))
          (first
            | go_keep
            | (go_split_ands
               exact ⟨(hb4.cell (p := ⟨r, 0, none⟩) (by simpa using hr3)).trans (by assumption), (hb4.cell (p := ⟨r, 1, none⟩) (by simpa using hr3)).trans (by assumption)⟩))
          (first
            | (with_reducible refine (cbytes_any _ [] _ ?_ ?_).mono ?_
               · exact HS.out _ (below_drewN (Below.refl _ _) _)
               · simp
               rintro e w4 ⟨⟨v4, rfl, hown4⟩, hb4⟩))
        go_wp2_with fail
        go_ret
        obtain ⟨ra, rc, rfl⟩ := owns_shape hown4
        refine ⟨⟨[], ra, rc, rfl, owns_bound hown4 (by simpa using hsz3), Nat.zero_le _, by simp, ?_⟩, ?_⟩
        · rw [← HY0.out]; exact HFIN.out _ (HR3.out.below ((Below.refl _ _).drew.trans (hb4.mono (by simp))) (Nat.le_refl _))
        · exact HU3.out.trans (Upd.of_below ((Below.refl _ _).drew.trans (hb4.mono (by simp))) (Nat.le_refl _))
      · have hsl : SlB w3 (.slice (some ⟨g, off + q, none⟩) z (cap - q)) ys := by
          have := hsl3.drop (p := q) (by rw [HN.out]; omega) (m := z) (by rw [HN.out]; omega) (cap - q) (by omega)
          rwa [HYS.out] at this
        have HS : Hid (∀ wz, Below w3.heap.size w3 wz → SlB wz (.slice (some ⟨g, off + q, none⟩) z (cap - q)) ys) := fun wz hz => hsl.below hz rfl
        have hyl := HYL.out
        have hy9 : ys.length ≤ 1099511627776 := by omega
        clear hsl hsl3 hzl
        go_region_held3 (fun w' => w'.cell? ⟨r, 0, none⟩ = some (.slice (some ⟨g, off, none⟩) n cap) ∧ w'.cell? ⟨r, 1, none⟩ = some (.int .i64 ((q : Int) + (z : Int))))
          (first
            | go_keep
            | (go_split_ands
               exact ⟨(hb4.cell (p := ⟨r, 0, none⟩) (by simpa using hr3)).trans (by assumption), (hb4.cell (p := ⟨r, 1, none⟩) (by simpa using hr3)).trans (by assumption)⟩))
          (first
            | (with_reducible refine (cbytes_any _ ys _ ?_ ?_).mono ?_
               · exact HS.out _ (below_drewN (Below.refl _ _) _)
               · omega
               rintro e w4 ⟨⟨v4, rfl, hown4⟩, hb4⟩))
        go_wp2_with fail
        go_ret
        obtain ⟨ra, rc, rfl⟩ := owns_shape hown4
        refine ⟨⟨ys, ra, rc, rfl, owns_bound hown4 (by simpa using hsz3), by rw [HYL.out]; omega, HYB.out, ?_⟩, ?_⟩
        · exact HFIN.out _ (HR3.out.below ((Below.refl _ _).drew.trans (hb4.mono (by simp))) (Nat.le_refl _))
        · exact HU3.out.trans (Upd.of_below ((Below.refl _ _).drew.trans (hb4.mono (by simp))) (Nat.le_refl _))
end

end Go.Proofs.YtncjffkpkmjgkaaGreatDoor.Sg

/-! Ul -/
namespace Go.Proofs.YtncjffkpkmjgkaaGreatDoor.Sg
open Go.RowKit Er Go.Maps

section
variable {w : World} {r p : Nat} {v : Value} {xs : List Nat}
set_option maxRecDepth 100000 in
theorem rfix_e (n : Nat) (h : RfE w r v xs) : Calls Tryz.prog 138 #[.pointer (some ⟨r, 0, none⟩), .int .i64 n] w fun e w' => e = .returned (.int .u64 0) ∧ w = w' := by
  have HF := Lib.hid (fine_e h)
  clear h
  go_enter Tryz.func138, Tryz.ntmps138
  go_wp2_with fail
  refine HF.out.mono ?_
  rintro e w' ⟨rfl, rfl⟩
  go_wp2_with fail
  go_ret
  exact ⟨rfl, rfl⟩
set_option maxRecDepth 100000 in
set_option maxHeartbeats 2000000 in
theorem rfix_v (m : Nat) (hm0 : 0 < m) (hm : m ≤ 8) (hby : ∀ y ∈ xs, y < 256) (hv : VR v xs) (h : RfV w r v xs p) :
    Calls Tryz.prog 138 #[.pointer (some ⟨r, 0, none⟩), .int .i64 m] w fun e w' => (∃ z : Nat, e = .returned (.int .u64 z) ∧ z < 2 ^ (8 * m) ∧ RfO w' r v xs (rdFix xs m p) z) ∧ Upd [r] w w' := by
  have hle := h.le
  have hlt := h.lt
  have HR := Lib.hid h
  have HF := Lib.hid (fine_v h)
  have HBY := Lib.hid hby
  have c0 := h.c0
  have c1 := h.c1
  have hf := h.row.frozen 1
  obtain ⟨g, off, cap, hv1, hcap⟩ := hv
  obtain ⟨n, hn⟩ : ∃ n, xs.length = n := ⟨_, rfl⟩
  have HN := Lib.hid hn
  have hsl := h.sl
  rw [hv1, hn] at hsl
  rw [hv1, hn] at c0
  rw [hn] at hle hlt hcap
  have HSL := Lib.hid hsl
  have HV1 := Lib.hid hv1
  have i0 : (0 : Int) ≤ (m : Int) := by omega
  have i8 : ¬ (8 : Int) < (m : Int) := by omega
  have i9 : ¬ (m : Int) < 0 := by omega
  have w1' : IntKind.i64.wrap ((n : Int) - (p : Int)) = (n : Int) - (p : Int) := IntWalk.i64_in _ (by omega)
  clear h hn hv1 hsl hby
  by_cases hc : n - p < m
  · have i5 : ((n : Int) - (p : Int)) < (m : Int) := by omega
    have HO : Hid (rdFix xs m p = none) := by show (if _ then _ else _) = _; rw [if_pos (by rw [HN.out]; omega)]
    go_enter Tryz.func138, Tryz.ntmps138
    go_wp2_with fail
    refine HF.out.mono ?_
    rintro e w' ⟨rfl, rfl⟩
    go_wp2_with fail
    go_quiet (fail)
    have HFA := Lib.hid (fail_any 101 (by decide) (HR.out.below (B := w.heap.size) (below_drewN (Below.refl _ _) nq) (Nat.le_refl _)))
    go_wp2_with fail
    refine HFA.out.mono ?_
    rintro e w3 ⟨rfl, q1, q2⟩
    have Q1 := Lib.hid q1
    have Q2 := Lib.hid (((Upd.refl [r] w).drewN nq).trans q2)
    clear q1 q2
    go_wp2_with fail
    go_ret
    refine ⟨⟨0, rfl, Nat.pow_pos (by omega), ?_⟩, Q2.out⟩
    rw [HO.out]; exact Q1.out
  · have i5 : ¬ ((n : Int) - (p : Int)) < (m : Int) := by omega
    obtain ⟨ys, hys⟩ : ∃ ys, (xs.drop p).take m = ys := ⟨_, rfl⟩
    have hyl : ys.length = m := by rw [← hys, List.length_take, List.length_drop, HN.out]; omega
    have hyb : ∀ y ∈ ys, y < 256 := fun y hy => HBY.out y (List.mem_of_mem_drop (List.mem_of_mem_take (by rw [hys]; exact hy)))
    have hzb := leV_lt ys hyb
    rw [hyl] at hzb
    obtain ⟨z, hz⟩ : ∃ z, leV ys = z := ⟨_, rfl⟩
    rw [hz] at hzb
    have HO : Hid (rdFix xs m p = some (z, p + m)) := by show (if _ then _ else _) = _; rw [if_neg (by rw [HN.out]; omega), hys, hz]
    have HYB := Lib.hid hyb
    have HYL := Lib.hid hyl
    have HZ := Lib.hid hz
    have HZB := Lib.hid hzb
    have hsl := HSL.out.drop (p := p) (by rw [HN.out]; omega) (m := m) (by rw [HN.out]; omega) (cap - p) (by omega)
    rw [hys] at hsl
    have HSY := Lib.hid hsl
    clear hys hyl hyb hz hzb hsl
    go_enter Tryz.func138, Tryz.ntmps138
    go_wp2_with fail
    refine HF.out.mono ?_
    rintro e w' ⟨rfl, rfl⟩
    go_wp2_with fail
    go_quiet (fail)
    go_upto_region 7 with fail
    have hset := (HR.out.below (B := w.heap.size) (below_drewN (Below.refl _ _) nq) (Nat.le_refl _)).set (p + m) (by rw [HN.out]; omega)
    rw [show ((p + m : Nat) : Int) = (p : Int) + (m : Int) from by omega] at hset
    have hu3 : Upd [r] w ((w.drewN nq).setCell ⟨r, 1, none⟩ (.int .i64 ((p : Int) + (m : Int)))) := ((Upd.refl [r] w).drewN nq).setCell r 1 (.int .i64 ((p : Int) + (m : Int))) (.inl (by simp))
    have hs3 : SlB ((w.drewN nq).setCell ⟨r, 1, none⟩ (.int .i64 ((p : Int) + (m : Int)))) (.slice (some ⟨g, off + p, none⟩) m (cap - p)) ys := HSY.out.upd hu3 (fun k hk => by
      simp at hk
      have := HR.out.ne
      rw [HV1.out] at this
      rw [hk]; exact this)
    generalize hw3 : (w.drewN nq).setCell ⟨r, 1, none⟩ (.int .i64 ((p : Int) + (m : Int))) = w3
    rw [hw3] at hset hu3 hs3
    have HR3 := Lib.hid hset
    have HU3 := Lib.hid hu3
    have e0 := hset.c0
    have e1 := hset.c1
    rw [show ((p + m : Nat) : Int) = (p : Int) + (m : Int) from by omega] at e1
    rw [HV1.out, HN.out] at e0
    have HS : Hid (∀ wz, Below w3.heap.size w3 wz → SlB wz (.slice (some ⟨g, off + p, none⟩) m (cap - p)) ys) := fun wz hz => hs3.below hz rfl
    have k0 : (0 : Int) ≤ (p : Int) + (m : Int) := by omega
    have k1 : (0 : Int) ≤ (p : Int) := by omega
    have k2 : (p : Int) ≤ (p : Int) + (m : Int) := by omega
    have k7 : (p : Int) + (m : Int) ≤ (cap : Int) := by omega
    have k9 : IntKind.i64.wrap (p : Int) = (p : Int) := by rw [IntKind.wrap_i64]; omega
    have k10 : ((p : Int) + (m : Int)).toNat = p + m := by omega
    have k11 : ¬ cap = p := by omega
    have hyl := HYL.out
    clear hset hw3 hu3 hs3 c0 c1 hf i5
    go_region_held3 (fun w' => w'.cell? ⟨r, 0, none⟩ = some (.slice (some ⟨g, off, none⟩) n cap) ∧ w'.cell? ⟨r, 1, none⟩ = some (.int .i64 ((p : Int) + (m : Int)))) (go_keep)
      (first
        | (with_reducible refine (rfixed_any _ ys _ ?_ HYB.out ?_).mono ?_
           · exact HS.out _ (below_drewN (Below.refl _ _) _)
           · omega
           rintro e w4 ⟨rfl, rfl⟩
           rw [HZ.out]))
    go_wp2_with fail
    go_ret
    refine ⟨⟨z, rfl, HZB.out, ?_⟩, HU3.out.trans (Upd.of_below (below_drewN (Below.refl _ _) _) (Nat.le_refl _))⟩
    rw [HO.out]
    exact ⟨rfl, HR3.out.below (below_drewN (Below.refl _ _) _) (Nat.le_refl _)⟩
end
end Go.Proofs.YtncjffkpkmjgkaaGreatDoor.Sg

/-! Um -/
namespace Go.Proofs.YtncjffkpkmjgkaaGreatDoor.Sg
open Go.RowKit Er Go.Maps

/-- A reader at a place, or one with an error. -/
def RfP (w : World) (r : Nat) (v : Value) (xs : List Nat) (op : Option Nat) : Prop := match op with
  | some p => RfV w r v xs p
  | none => RfE w r v xs
/-- The place behind what was read. -/
def opO {α : Type} (o : Option (α × Nat)) : Option Nat := o.map (·.2)

theorem RfP.upd {M : List Nat} {w w' : World} {r : Nat} {v : Value} {xs : List Nat} {op : Option Nat} (h : RfP w r v xs op) (hu : Upd M w w') (hr : r ∉ M) (hne : ∀ k, k ∈ M → v.ownBlock ≠ some k) : RfP w' r v xs op := by
  cases op with
  | some p => exact RfV.upd h hu hr hne
  | none => exact RfE.upd h hu hr hne
theorem RfP.below {B : Nat} {w w' : World} {r : Nat} {v : Value} {xs : List Nat} {op : Option Nat} (h : RfP w r v xs op) (hb : Below B w w') (hB : w.heap.size ≤ B) : RfP w' r v xs op :=
  h.upd (Upd.of_below (M := []) hb hB) (by simp) (by simp)
theorem RfP.lt {w : World} {r : Nat} {v : Value} {xs : List Nat} {op : Option Nat} (h : RfP w r v xs op) : r < w.heap.size := by
  cases op with
  | some p => exact RfV.row h |>.lt
  | none => exact RfE.row_lt h
theorem RfO.p {α : Type} {w : World} {r : Nat} {v : Value} {xs : List Nat} {o : Option (α × Nat)} {z : α} (h : RfO w r v xs o z) : RfP w r v xs (opO o) ∧ ∀ q, o = some q → z = q.1 := by
  cases o with
  | none => exact ⟨h, fun q hq => by cases hq⟩
  | some q => exact ⟨h.2, fun q' hq => by cases hq; exact h.1⟩

section
variable {w : World} {r : Nat} {v : Value} {xs : List Nat} {op : Option Nat}
theorem rfix_p (m : Nat) (hm0 : 0 < m) (hm : m ≤ 8) (hby : ∀ y ∈ xs, y < 256) (hv : VR v xs) (h : RfP w r v xs op) :
    Calls Tryz.prog 138 #[.pointer (some ⟨r, 0, none⟩), .int .i64 m] w fun e w' => (∃ z : Nat, e = .returned (.int .u64 z) ∧ z < 2 ^ (8 * m) ∧ RfP w' r v xs (opO (op.bind (rdFix xs m))) ∧ ∀ q, op.bind (rdFix xs m) = some q → z = q.1) ∧ Upd [r] w w' := by
  cases op with
  | some p =>
    refine (rfix_v m hm0 hm hby hv h).mono ?_
    rintro e w' ⟨⟨z, rfl, h1, h2⟩, h3⟩
    exact ⟨⟨z, rfl, h1, h2.p⟩, h3⟩
  | none =>
    refine (rfix_e m h).mono ?_
    rintro e w' ⟨rfl, rfl⟩
    exact ⟨⟨0, rfl, Nat.pow_pos (by omega), h, fun q hq => by cases hq⟩, Upd.refl _ _⟩
theorem rint_p (a b : Int) (ha : a ≤ 0) (hb : 0 ≤ b) (hby : ∀ y ∈ xs, y < 256) (hv : VR v xs) (h : RfP w r v xs op) :
    Calls Tryz.prog 139 #[.pointer (some ⟨r, 0, none⟩), .int .i64 a, .int .i64 b] w fun e w' => (∃ z : Int, e = .returned (.int .i64 z) ∧ a ≤ z ∧ z ≤ b ∧ RfP w' r v xs (opO (op.bind (rdInt xs a b))) ∧ ∀ q, op.bind (rdInt xs a b) = some q → z = q.1) ∧ Upd [r] w w' := by
  cases op with
  | some p =>
    refine (rint_v a b ha hb hby hv h).mono ?_
    rintro e w' ⟨⟨z, rfl, h1, h2⟩, h3⟩
    first
      | exact ⟨⟨z, rfl, h1.1, h1.2, h2.p⟩, h3⟩
      | exact ⟨⟨z, rfl, h1, h2.1, h2.2.p⟩, h3⟩
  | none =>
    refine (rint_e a b ha hb h).mono ?_
    rintro e w' ⟨⟨z, rfl, h1, h2⟩, rfl⟩
    exact ⟨⟨z, rfl, h1, h2, h, fun q hq => by cases hq⟩, Upd.refl _ _⟩
theorem rbytes_p (mI : Int) (most : Nat) (hmi : (most : Int) = mI) (hmm : most ≤ 512) (hby : ∀ y ∈ xs, y < 256) (hv : VR v xs) (h : RfP w r v xs op) :
    Calls Tryz.prog 141 #[.pointer (some ⟨r, 0, none⟩), .int .i64 mI] w fun e w' => (∃ (ys : List Nat) (a : Option Addr) (c : Nat), e = .returned (.slice a ys.length c) ∧ w'.ownsRow w.heap.size 5 1 (.slice a ys.length c) ys.length (bcells ys) ∧ (∀ y ∈ ys, y < 256) ∧ ys.length ≤ 512 ∧ RfP w' r v xs (opO (op.bind (rdBy xs most))) ∧ ∀ q, op.bind (rdBy xs most) = some q → ys = q.1) ∧ Upd [r] w w' := by
  subst hmi
  cases op with
  | some p =>
    refine (rbytes_v most hmm hby hv h).mono ?_
    rintro e w' ⟨⟨ys, a, c, rfl, h1, h2, h3, h4⟩, h5⟩
    exact ⟨⟨ys, a, c, rfl, h1, h3, h2, h4.p⟩, h5⟩
  | none =>
    refine (rbytes_e most hmm h).mono ?_
    rintro e w' ⟨rfl, rfl⟩
    exact ⟨⟨[], none, 0, rfl, World.ownsRow_nil _ _ _ _, by simp, Nat.zero_le _, h, fun q hq => by cases hq⟩, Upd.refl _ _⟩
theorem fine_p (b : Bool) (hb : op.isSome = b) (h : RfP w r v xs op) :
    Calls Tryz.prog 140 #[.pointer (some ⟨r, 0, none⟩)] w fun e w' => e = .returned (.bool b) ∧ w = w' := by
  subst hb
  cases op with
  | some p => exact fine_v h
  | none => exact fine_e h
end

/-- What a parse comes to, when its records were read. -/
def pfin (n : Nat) (z2 : Nat) (b : Int) (e : Nat) (o : Option (List Rc × Nat)) : Option Bt := match o with
  | none => none
  | some (r, p) => if 65 < z2 ∨ p < n then none else some ⟨b, e, r⟩
/-- What is to come, when so many records were read. -/
def pgo (xs : List Nat) (z2 : Nat) (b : Int) (e : Nat) (m : Nat) (L : List Rc) (t : Int) (op : Option Nat) : Option Bt := op.bind fun p => pfin xs.length z2 b e ((rdRcs xs m t p).map fun q => (L ++ q.1, q.2))
theorem pgo_none (xs : List Nat) (z2 : Nat) (b : Int) (e m : Nat) (L : List Rc) (t : Int) : pgo xs z2 b e m L t none = none := rfl
theorem pgo_big (xs : List Nat) (z2 : Nat) (b : Int) (e m : Nat) (L : List Rc) (t : Int) (op : Option Nat) (h : 65 < z2) : pgo xs z2 b e m L t op = none := by
  unfold pgo
  cases op with
  | none => rfl
  | some p =>
    show pfin _ _ _ _ _ = none
    cases rdRcs xs m t p with
    | none => rfl
    | some q => show (if _ then _ else _) = _; rw [if_pos (.inl h)]
theorem pgo_next (xs : List Nat) (z2 : Nat) (b : Int) (e m : Nat) (L : List Rc) (t : Int) (p : Nat) (d : Int) (yk yv : List Nat) (o1 o2 o3 : Option Nat)
    (h1 : o1 = opO (rdInt xs (-1125899906842624) 1125899906842624 p)) (hd : ∀ q, rdInt xs (-1125899906842624) 1125899906842624 p = some q → d = q.1)
    (h2 : o2 = opO (o1.bind (rdBy xs 64))) (hk : ∀ q, o1.bind (rdBy xs 64) = some q → yk = q.1) (h3 : o3 = opO (o2.bind (rdBy xs 512))) (hv : ∀ q, o2.bind (rdBy xs 512) = some q → yv = q.1) :
    pgo xs z2 b e (m + 1) L t (some p) = pgo xs z2 b e m (L ++ [⟨t + d, yk, yv⟩]) (t + d) o3 := by
  unfold pgo
  rw [Option.bind_some, rdRcs_next]
  unfold rdRc
  cases hi : rdInt xs (-1125899906842624) 1125899906842624 p with
  | none =>
    rw [hi] at h1
    have e1 : o1 = none := h1
    subst e1
    have e2 : o2 = none := h2
    subst e2
    have e3 : o3 = none := h3
    subst e3
    rfl
  | some q1 =>
    obtain ⟨d', p1⟩ := q1
    rw [hi] at h1
    have e1 : o1 = some p1 := h1
    have ed : d = d' := hd _ hi
    subst e1 ed
    simp only
    rw [Option.bind_some] at h2 hk
    cases hb : rdBy xs 64 p1 with
    | none =>
      rw [hb] at h2
      have e2 : o2 = none := h2
      subst e2
      have e3 : o3 = none := h3
      subst e3
      rfl
    | some q2 =>
      obtain ⟨k', p2⟩ := q2
      rw [hb] at h2
      have e2 : o2 = some p2 := h2
      have ek : yk = k' := hk _ hb
      subst e2 ek
      simp only
      rw [Option.bind_some] at h3 hv
      cases hc : rdBy xs 512 p2 with
      | none =>
        rw [hc] at h3
        have e3 : o3 = none := h3
        subst e3
        rfl
      | some q3 =>
        obtain ⟨v', p3⟩ := q3
        rw [hc] at h3
        have e3 : o3 = some p3 := h3
        have ev : yv = v' := hv _ hc
        subst e3 ev
        simp only [Option.bind_some]
        cases rdRcs xs m (t + d) p3 with
        | none => rfl
        | some q => simp
/-- A parse, step by step. -/
theorem parse_go (xs : List Nat) (z8 z4 z2 : Nat) (l0 : Int) (o1 o2 o3 o4 : Option Nat)
    (h1 : o1 = opO (rdFix xs 8 0)) (e1 : ∀ q, rdFix xs 8 0 = some q → z8 = q.1)
    (h2 : o2 = opO (o1.bind (rdFix xs 4))) (e2 : ∀ q, o1.bind (rdFix xs 4) = some q → z4 = q.1)
    (h3 : o3 = opO (o2.bind (rdFix xs 2))) (e3 : ∀ q, o2.bind (rdFix xs 2) = some q → z2 = q.1)
    (h4 : o4 = opO (o3.bind (rdInt xs (-4611686018427387904) 4611686018427387904))) (e4 : ∀ q, o3.bind (rdInt xs (-4611686018427387904) 4611686018427387904) = some q → l0 = q.1) :
    parseR xs = pgo xs z2 (IntKind.i64.wrap z8) z4 z2 [] l0 o4 := by
  unfold parseR
  cases k1 : rdFix xs 8 0 with
  | none =>
    rw [k1] at h1
    have q1 : o1 = none := h1
    subst q1
    have q2 : o2 = none := h2
    subst q2
    have q3 : o3 = none := h3
    subst q3
    have q4 : o4 = none := h4
    subst q4
    rfl
  | some a =>
    obtain ⟨a1, p1⟩ := a
    rw [k1] at h1
    have q1 : o1 = some p1 := h1
    have f1 : z8 = a1 := e1 _ k1
    subst q1 f1
    simp only
    rw [Option.bind_some] at h2 e2
    cases k2 : rdFix xs 4 p1 with
    | none =>
      rw [k2] at h2
      have q2 : o2 = none := h2
      subst q2
      have q3 : o3 = none := h3
      subst q3
      have q4 : o4 = none := h4
      subst q4
      rfl
    | some a =>
      obtain ⟨a2, p2⟩ := a
      rw [k2] at h2
      have q2 : o2 = some p2 := h2
      have f2 : z4 = a2 := e2 _ k2
      subst q2 f2
      simp only
      rw [Option.bind_some] at h3 e3
      cases k3 : rdFix xs 2 p2 with
      | none =>
        rw [k3] at h3
        have q3 : o3 = none := h3
        subst q3
        have q4 : o4 = none := h4
        subst q4
        rfl
      | some a =>
        obtain ⟨a3, p3⟩ := a
        rw [k3] at h3
        have q3 : o3 = some p3 := h3
        have f3 : z2 = a3 := e3 _ k3
        subst q3 f3
        simp only
        rw [Option.bind_some] at h4 e4
        cases k4 : rdInt xs (-4611686018427387904) 4611686018427387904 p3 with
        | none =>
          rw [k4] at h4
          have q4 : o4 = none := h4
          subst q4
          rfl
        | some a =>
          obtain ⟨a4, p4⟩ := a
          rw [k4] at h4
          have q4 : o4 = some p4 := h4
          have f4 : l0 = a4 := e4 _ k4
          subst q4 f4
          simp only
          unfold pgo
          rw [Option.bind_some]
          cases rdRcs xs z2 l0 p4 with
          | none => rfl
          | some q => simp [pfin]
end Go.Proofs.YtncjffkpkmjgkaaGreatDoor.Sg
