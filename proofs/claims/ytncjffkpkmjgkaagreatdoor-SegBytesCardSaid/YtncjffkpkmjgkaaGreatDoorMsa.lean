/- vint.Get of any bytes. vint.GetInt of any bytes. What the reference reads of bytes: plain. vint.Reader over any bytes: bad, Err, Left, Num, Int. -/
import Derived.Test.YtncjffkpkmjgkaaGreatDoorMb

/-! Ub -/
namespace Go.Proofs.YtncjffkpkmjgkaaGreatDoor.Sg
open Go.RowKit Er Go.Maps

/-- What Get comes to: a number and how many bytes it has, or ErrEnd or ErrShape. -/
def GetAny (E : Nat → Addr) (n : Nat) (e : Ending) : Prop :=
  (∃ N k : Nat, e = .returned (.tuple #[.int .u64 N, .int .i64 k, .nilIface]) ∧ N < 18446744073709551616 ∧ 0 < k ∧ k ≤ n ∧ k ≤ 10) ∨
    ∃ i, (i = 0 ∨ i = 2) ∧ e = .returned (.tuple #[.int .u64 0, .int .i64 0, .iface 289 (.pointer (some (E i)))])

theorem pow7 (i : Nat) (h : i ≤ 8) : 2 ^ (7 * i) * 128 ≤ 9223372036854775808 := by
  have h2 : 2 ^ (7 * i) ≤ 2 ^ 56 := Nat.pow_le_pow_right (by omega) (by omega)
  omega

set_option maxRecDepth 100000 in
set_option maxHeartbeats 2000000 in
theorem get_any {S : List Nat} {E : Nat → Addr} {B : Nat} (h0 : 0 ∈ S) (h2 : 2 ∈ S) (v : Value) (xs : List Nat) (w : World) (hE : Errs S w E B) (h : SlB w v xs) (hb : ∀ y ∈ xs, y < 256) (hl : xs.length ≤ 1099511627776) :
    Calls Tryz.prog 222 #[v] w fun e w' => GetAny E xs.length e ∧ ∃ q, w' = w.drewN q := by
  have H0 := Lib.hid h
  obtain ⟨va, vc, rfl, -⟩ := h.shape
  have c0 : w.cell? ⟨10, 0, none⟩ = some (.iface 289 (.pointer (some (E 0)))) := hE.at_ 0 h0
  have c2 : w.cell? ⟨5, 0, none⟩ = some (.iface 289 (.pointer (some (E 2)))) := hE.at_ 2 h2
  obtain ⟨n, hn⟩ : ∃ n, xs.length = n := ⟨_, rfl⟩
  have HN := Lib.hid hn
  rw [hn] at hl ⊢
  clear h hE hn
  go_enter Tryz.func222, Tryz.ntmps222
  go_wp2_with fail
  go_loopg [5, 8] 10 (fun r q j wr => ∃ (i acc : Nat), i + r = 10 ∧ i ≤ 9 ∧ j = .int .i64 i ∧ q = .int .u64 acc ∧ wr = w ∧ acc < 2 ^ (7 * i))
  case atStart => exact ⟨0, 0, rfl, by omega, rfl, rfl, rfl, by simp⟩
  case round =>
    obtain ⟨i, acc, hi, hi9, rfl, rfl, rfl, hacc⟩ := hrel
    by_cases hlt : i < n
    · have hlt2 : i < xs.length := by rw [HN.out]; exact hlt
      obtain ⟨g, off, cap, hvv, hg, hc⟩ := slB_cell H0.out hlt2
      rw [HN.out] at hvv
      cases hvv
      have hcb := hb _ (List.getElem_mem hlt2)
      obtain ⟨c, hce⟩ : ∃ c, xs[i] = c := ⟨_, rfl⟩
      rw [hce] at hc hcb
      have j1 : ¬ (n : Int) ≤ (i : Int) := by omega
      by_cases h9 : i = 9 ∧ 1 < c
      · obtain ⟨rfl, hc1⟩ := h9
        have k1 : (1 : Int) < (c : Int) := by omega
        clear hacc hce
        go_wp2_with fail
        go_quiet (fail)
        go_wp2_with fail
        exact bodyPost_ret (v := .tuple #[.int .u64 0, .int .i64 0, .iface 289 (.pointer (some (E 2)))]) (by simp [results, Tryz.results222, go_sem]) rfl ⟨.inr ⟨2, .inr rfl, rfl⟩, _, rfl⟩
      · by_cases hc7 : 128 ≤ c
        · have hi8 : i ≤ 8 := by omega
          have h9' : ((i : Int) == 9) = false := beq_eq_false_iff_ne.2 (by omega)
          have c1 : (128 : Int) ≤ (c : Int) := by omega
          have hp7 := pow7 i hi8
          have hd : c % 128 ≤ 127 := by omega
          have hdb : c % 128 * 2 ^ (7 * i) ≤ 127 * 2 ^ (7 * i) := Nat.mul_le_mul_right _ hd
          have hG := getG acc c i (by omega) hacc (by omega)
          have hn2 : acc + c % 128 * 2 ^ (7 * i) < 2 ^ (7 * (i + 1)) := by
            have hp2 : 2 ^ (7 * (i + 1)) = 128 * 2 ^ (7 * i) := by rw [Nat.mul_add, Nat.pow_add]; omega
            rw [hp2]; omega
          have HG := Lib.hid hG
          have HX := Lib.hid hn2
          obtain ⟨gj, rfl⟩ : ∃ x, gk = x + 1 := ⟨gk - 1, by omega⟩
          clear hacc hce hG hn2 hdb hd hp7 h9
          go_wp2_with fail
          go_roundg gj
          case measure => omega
          case rel => exact ⟨i + 1, _, by omega, by omega, by go_num, by rw [HG.out], rfl, HX.out⟩
        · have c1 : ¬ (128 : Int) ≤ (c : Int) := by omega
          by_cases hz : 0 < i ∧ c = 0
          · obtain ⟨hz1, rfl⟩ := hz
            have h00 : (0 : Int) < (i : Int) := by omega
            clear hacc hce h9
            by_cases h9i : i = 9
            · subst h9i
              go_wp2_with fail
              go_quiet (fail)
              go_wp2_with fail
              exact bodyPost_ret (v := .tuple #[.int .u64 0, .int .i64 0, .iface 289 (.pointer (some (E 2)))]) (by simp [results, Tryz.results222, go_sem]) rfl ⟨.inr ⟨2, .inr rfl, rfl⟩, _, rfl⟩
            · have h9' : ((i : Int) == 9) = false := beq_eq_false_iff_ne.2 (by omega)
              go_wp2_with fail
              go_quiet (fail)
              go_wp2_with fail
              exact bodyPost_ret (v := .tuple #[.int .u64 0, .int .i64 0, .iface 289 (.pointer (some (E 2)))]) (by simp [results, Tryz.results222, go_sem]) rfl ⟨.inr ⟨2, .inr rfl, rfl⟩, _, rfl⟩
          · have hmm : c % 128 = c := Nat.mod_eq_of_lt (by omega)
            have hbd : acc + c * 2 ^ (7 * i) < 18446744073709551616 := by
              by_cases h9i : i = 9
              · subst h9i
                have hc1 : c ≤ 1 := by omega
                rw [show 2 ^ (7 * 9) = 9223372036854775808 from rfl] at hacc ⊢
                omega
              · have hp7 := pow7 i (by omega)
                have hdb : c * 2 ^ (7 * i) ≤ 127 * 2 ^ (7 * i) := Nat.mul_le_mul_right _ (by omega)
                omega
            have hG := getG acc c i (by omega) hacc (by rw [hmm]; exact hbd)
            rw [hmm] at hG
            obtain ⟨N, hNe⟩ : ∃ N, acc + c * 2 ^ (7 * i) = N := ⟨_, rfl⟩
            rw [hNe] at hG hbd
            have HBD := Lib.hid hbd
            clear hmm hbd hNe hce
            by_cases h9i : i = 9
            · subst h9i
              have hc1 : ¬ (1 : Int) < (c : Int) := by omega
              have hc0 : 0 < c := by omega
              have hc0' : ((c : Int) == 0) = false := beq_eq_false_iff_ne.2 (by omega)
              rw [show (2 : Int) ^ (7 * 9) = 9223372036854775808 from rfl] at hG
              have HG := Lib.hid hG
              clear hG hacc h9 hz
              go_wp2_with fail
              exact bodyPost_ret (v := .tuple #[.int .u64 N, .int .i64 ((9 : Int) + 1), .nilIface]) (by simp [results, Tryz.results222, go_sem, HG.out]) rfl ⟨.inl ⟨N, 9 + 1, by simp, HBD.out, by omega, by omega, by omega⟩, 0, rfl⟩
            · have h9' : ((i : Int) == 9) = false := beq_eq_false_iff_ne.2 (by omega)
              by_cases hi0 : i = 0
              · subst hi0
                rw [Nat.add_zero] at hc
                have hne : xs ≠ [] := fun e => by rw [e] at hlt2; simp at hlt2
                rw [show (2 : Int) ^ (7 * 0) = 1 from rfl, Int.mul_one] at hG
                have HG := Lib.hid hG
                clear hG hacc h9 hz h9i h9'
                go_wp2_with fail
                exact bodyPost_ret (v := .tuple #[.int .u64 N, .int .i64 ((0 : Int) + 1), .nilIface]) (by simp [results, Tryz.results222, go_sem, HG.out]) rfl ⟨.inl ⟨N, 0 + 1, by simp, HBD.out, by omega, by omega, by omega⟩, 0, rfl⟩
              · have hc0 : 0 < c := by omega
                have hc0' : ((c : Int) == 0) = false := beq_eq_false_iff_ne.2 (by omega)
                have h00 : (0 : Int) < (i : Int) := by omega
                have HG := Lib.hid hG
                clear hG hacc h9 hz
                go_wp2_with fail
                exact bodyPost_ret (v := .tuple #[.int .u64 N, .int .i64 ((i : Int) + 1), .nilIface]) (by simp [results, Tryz.results222, go_sem, HG.out]) rfl ⟨.inl ⟨N, i + 1, by simp, HBD.out, by omega, by omega, by omega⟩, 0, rfl⟩
    · have j1 : (n : Int) ≤ (i : Int) := by omega
      clear hacc
      go_wp2_with fail
      go_quiet (fail)
      go_wp2_with fail
      exact bodyPost_ret (v := .tuple #[.int .u64 0, .int .i64 0, .iface 289 (.pointer (some (E 0)))]) (by simp [results, Tryz.results222, go_sem]) rfl ⟨.inr ⟨0, .inl rfl, rfl⟩, _, rfl⟩
end Go.Proofs.YtncjffkpkmjgkaaGreatDoor.Sg

/-! Uc -/
namespace Go.Proofs.YtncjffkpkmjgkaaGreatDoor.Sg
open Go.RowKit Er Go.Maps

def GetIntAny (E : Nat → Addr) (n : Nat) (e : Ending) : Prop :=
  (∃ (z : Int) (k : Nat), e = .returned (.tuple #[.int .i64 z, .int .i64 k, .nilIface]) ∧ -9223372036854775808 ≤ z ∧ z < 9223372036854775808 ∧ 0 < k ∧ k ≤ n ∧ k ≤ 10) ∨
    ∃ i, (i = 0 ∨ i = 2) ∧ e = .returned (.tuple #[.int .i64 0, .int .i64 0, .iface 289 (.pointer (some (E i)))])

theorem xor_i64_range (a b : Int) : -9223372036854775808 ≤ bits .xor .i64 a b ∧ bits .xor .i64 a b < 9223372036854775808 := by
  show -9223372036854775808 ≤ IntKind.i64.wrap ((BitVec.ofInt 64 a ^^^ BitVec.ofInt 64 b).toNat : Int) ∧ IntKind.i64.wrap ((BitVec.ofInt 64 a ^^^ BitVec.ofInt 64 b).toNat : Int) < 9223372036854775808
  rw [IntKind.wrap_i64]
  omega

set_option maxRecDepth 100000 in
set_option maxHeartbeats 1000000 in
theorem getint_any {S : List Nat} {E : Nat → Addr} {B : Nat} (h0 : 0 ∈ S) (h2 : 2 ∈ S) (v : Value) (xs : List Nat) (w : World) (hE : Errs S w E B) (h : SlB w v xs) (hb : ∀ y ∈ xs, y < 256) (hl : xs.length ≤ 1099511627776) :
    Calls Tryz.prog 202 #[v] w fun e w' => GetIntAny E xs.length e ∧ ∃ q, w' = w.drewN q := by
  go_enter Tryz.func202, Tryz.ntmps202
  go_wp2_with fail
  refine (get_any h0 h2 _ _ _ hE h hb hl).mono ?_
  rintro e w1 ⟨⟨N, k, rfl, hN, hk1, hk2, hk3⟩ | ⟨i, hi, rfl⟩, q, rfl⟩
  · obtain ⟨m, hm, hm1, hA⟩ : ∃ m : Int, 0 ≤ m ∧ m ≤ 1 ∧ bits .and .u64 ((N : Nat) : Int) 1 = m := ⟨_, by omega, by omega, Lib.u64_and1 N (by omega) (by omega)⟩
    obtain ⟨z, hz⟩ : ∃ z, bits .xor .i64 ((N : Int) / 2) (-m) = z := ⟨_, rfl⟩
    have hzr := xor_i64_range ((N : Int) / 2) (-m)
    rw [hz] at hzr
    have HZ := Lib.hid hz
    clear hz
    go_wp2_with fail
    exact bodyPost_ret (v := .tuple #[.int .i64 z, .int .i64 k, .nilIface]) (by simp [results, Tryz.results202, go_sem, HZ.out]) rfl ⟨.inl ⟨z, k, rfl, hzr.1, hzr.2, hk1, hk2, hk3⟩, q, rfl⟩
  · have hA : bits .and .u64 0 1 = 0 := by decide
    have HZ : Hid (bits .xor .i64 0 0 = 0) := by show _ = _; decide
    go_wp2_with fail
    exact bodyPost_ret (v := .tuple #[.int .i64 0, .int .i64 0, .iface 289 (.pointer (some (E i)))]) (by simp [results, Tryz.results202, go_sem, HZ.out]) rfl ⟨.inr ⟨i, hi, rfl⟩, q, rfl⟩
end Go.Proofs.YtncjffkpkmjgkaaGreatDoor.Sg

/-! Uh -/
namespace Go.Proofs.YtncjffkpkmjgkaaGreatDoor.Sg
open Go.RowKit Er Go.Maps

/-- The number at the beginning of bytes, and how many it has. -/
def getF : Nat → Nat → List Nat → Option (Nat × Nat)
  | _, _, [] => none
  | i, acc, c :: l => if 10 ≤ i ∨ (i = 9 ∧ 1 < c % 128) ∨ (0 < i ∧ c = 0) then none else if c < 128 then some (acc + c % 128 * 2 ^ (7 * i), i + 1) else getF (i + 1) (acc + c % 128 * 2 ^ (7 * i)) l

theorem getF_put (rest : List Nat) : ∀ (m i acc : Nat), (0 < i → 0 < m) → i ≤ 9 → acc + m * 2 ^ (7 * i) < 18446744073709551616 → getF i acc (vput m ++ rest) = some (acc + m * 2 ^ (7 * i), i + (vput m).length) := by
  intro m
  induction m using Nat.strongRecOn with
  | _ m ih =>
    intro i acc hp hi hb
    have hp63 : i = 9 → m ≤ 1 := by
      rintro rfl
      rw [show 2 ^ (7 * 9) = 9223372036854775808 from rfl] at hb
      omega
    by_cases h : m < 128
    · rw [vput_small m h]
      have hm : m % 128 = m := Nat.mod_eq_of_lt h
      show (if _ then _ else _) = _
      rw [hm, if_neg (by omega), if_pos h]
      rfl
    · have hi8 : i ≤ 8 := by omega
      rw [vput_big m h]
      have hc : (m % 128 + 128) % 128 = m % 128 := by omega
      have hs : m % 128 * 2 ^ (7 * i) + m / 128 * 2 ^ (7 * (i + 1)) = m * 2 ^ (7 * i) := by
        have e : 2 ^ (7 * (i + 1)) = 128 * 2 ^ (7 * i) := by rw [Nat.mul_add, Nat.pow_add]; omega
        rw [e, ← Nat.mul_assoc, ← Nat.add_mul]
        congr 1
        omega
      show (if _ then _ else _) = _
      rw [hc, if_neg (by omega), if_neg (by omega)]
      refine (ih (m / 128) (by omega) (i + 1) _ (by omega) (by omega) (by rw [Nat.add_assoc, hs]; exact hb)).trans ?_
      rw [Nat.add_assoc, hs, List.length_cons, show i + 1 + (vput (m / 128)).length = i + ((vput (m / 128)).length + 1) by omega]
/-- A number's sign. -/
def zagN (n : Nat) : Int := if n % 2 = 0 then ((n / 2 : Nat) : Int) else -((n / 2 : Nat) : Int) - 1
theorem zagN_zig (z : Int) : zagN (zig z) = z := by
  unfold zagN zig
  split <;> split <;> omega
theorem getF_pos : ∀ (xs : List Nat) (i acc n k : Nat), getF i acc xs = some (n, k) → i < k ∧ k ≤ i + xs.length
  | [], i, acc, n, k, h => by simp [getF] at h
  | c :: l, i, acc, n, k, h => by
    unfold getF at h
    split at h
    · cases h
    · split at h
      · simp only [Option.some.injEq, Prod.mk.injEq] at h
        rw [List.length_cons]; omega
      · have := getF_pos l (i + 1) _ n k h
        rw [List.length_cons]; omega

/-- What a reader of bytes reads: what, and where it stands then. -/
def rdFix (xs : List Nat) (n p : Nat) : Option (Nat × Nat) := if xs.length - p < n then none else some (leV ((xs.drop p).take n), p + n)
def rdInt (xs : List Nat) (a b : Int) (p : Nat) : Option (Int × Nat) := match getF 0 0 (xs.drop p) with
  | none => none
  | some (n, k) => if zagN n < a ∨ b < zagN n then none else some (zagN n, p + k)
def rdBy (xs : List Nat) (most p : Nat) : Option (List Nat × Nat) := match getF 0 0 (xs.drop p) with
  | none => none
  | some (n, k) => if most < n ∨ xs.length - (p + k) < n then none else some ((xs.drop (p + k)).take n, p + k + n)
/-- One record. -/
def rdRc (xs : List Nat) (last : Int) (p : Nat) : Option (Rc × Nat) := match rdInt xs (-1125899906842624) 1125899906842624 p with
  | none => none
  | some (d, p1) => match rdBy xs 64 p1 with
    | none => none
    | some (k, p2) => match rdBy xs 512 p2 with
      | none => none
      | some (v, p3) => some (⟨last + d, k, v⟩, p3)
/-- So many records. -/
def rdRcs (xs : List Nat) : Nat → Int → Nat → Option (List Rc × Nat)
  | 0, _, p => some ([], p)
  | m + 1, last, p => match rdRc xs last p with
    | none => none
    | some (x, p1) => match rdRcs xs m x.t p1 with
      | none => none
      | some (l, p2) => some (x :: l, p2)
theorem rdInt_ok {xs rest : List Nat} {p : Nat} {z a b : Int} (hx : xs.drop p = vput (zig z) ++ rest) (h1 : -4611686018427387904 ≤ z) (h2 : z < 4611686018427387904) (ha : a ≤ z) (hb : z ≤ b) : rdInt xs a b p = some (z, p + (vput (zig z)).length) := by
  unfold rdInt
  rw [hx, getF_put rest (zig z) 0 0 (by omega) (by omega) (by have := zig_lt z h1 h2; omega)]
  simp only [Nat.mul_zero, Nat.pow_zero, Nat.mul_one, Nat.zero_add]
  rw [zagN_zig, if_neg (by omega)]
theorem rdBy_ok {xs ys rest : List Nat} {p most : Nat} (hx : xs.drop p = vput ys.length ++ (ys ++ rest)) (hm : ys.length ≤ most) (h64 : ys.length < 18446744073709551616) : rdBy xs most p = some (ys, p + (vput ys.length).length + ys.length) := by
  unfold rdBy
  have hlen : p + (vput ys.length).length + ys.length ≤ xs.length ∨ (vput ys.length ++ (ys ++ rest) = []) := by
    have := congrArg List.length hx
    simp only [List.length_drop, List.length_append] at this
    by_cases h : p ≤ xs.length
    · left; omega
    · right; apply List.eq_nil_of_length_eq_zero; simp only [List.length_append]; omega
  have hd : xs.drop (p + (vput ys.length).length) = ys ++ rest := by rw [← List.drop_drop, hx, List.drop_left]
  rw [hx, getF_put (ys ++ rest) ys.length 0 0 (by omega) (by omega) (by omega)]
  simp only [Nat.mul_zero, Nat.pow_zero, Nat.mul_one, Nat.zero_add]
  have hl2 : xs.length - (p + (vput ys.length).length) = ys.length + rest.length := by
    have := congrArg List.length hd
    simpa using this
  rw [if_neg (by omega), hd, List.take_left]
theorem rdRc_ok {xs rest : List Nat} {p : Nat} {last : Int} {x : Rc} (hx : xs.drop p = rcB last x ++ rest) (hl : -1099511627776 ≤ last ∧ last ≤ 1099511627776) (ht : -1099511627776 ≤ x.t ∧ x.t ≤ 1099511627776 ∧ x.k.length ≤ 64 ∧ x.v.length ≤ 512) : rdRc xs last p = some (x, p + (rcB last x).length) := by
  have hx' : xs.drop p = vput (zig (x.t - last)) ++ (vput x.k.length ++ (x.k ++ (vput x.v.length ++ (x.v ++ rest)))) := by rw [hx]; simp [rcB, List.append_assoc]
  have h2 : xs.drop (p + (vput (zig (x.t - last))).length) = vput x.k.length ++ (x.k ++ (vput x.v.length ++ (x.v ++ rest))) := by rw [← List.drop_drop, hx', List.drop_left]
  have h3 : xs.drop (p + (vput (zig (x.t - last))).length + (vput x.k.length).length + x.k.length) = vput x.v.length ++ (x.v ++ rest) := by rw [← List.drop_drop, ← List.drop_drop, h2, List.drop_left, List.drop_left]
  unfold rdRc
  rw [rdInt_ok hx' (by omega) (by omega) (by omega) (by omega)]
  simp only
  rw [rdBy_ok h2 ht.2.2.1 (by omega)]
  simp only
  rw [rdBy_ok h3 ht.2.2.2 (by omega)]
  simp only [Option.some.injEq, Prod.mk.injEq]
  refine ⟨?_, by simp [rcB]; omega⟩
  cases x
  simp only [Rc.mk.injEq, and_true]
  show last + (_ - last) = _
  omega
theorem rdRcs_ok {xs rest : List Nat} : ∀ (r : List Rc) (p : Nat) (last : Int), xs.drop p = bodyR last r ++ rest → (-1099511627776 ≤ last ∧ last ≤ 1099511627776) → (∀ y ∈ r, -1099511627776 ≤ y.t ∧ y.t ≤ 1099511627776 ∧ y.k.length ≤ 64 ∧ y.v.length ≤ 512) →
    rdRcs xs r.length last p = some (r, p + (bodyR last r).length)
  | [], p, last, _, _, _ => by simp [rdRcs, bodyR]
  | x :: r, p, last, hx, hl, hr => by
    have hx1 : xs.drop p = rcB last x ++ (bodyR x.t r ++ rest) := by rw [hx]; simp [bodyR, List.append_assoc]
    have hx2 : xs.drop (p + (rcB last x).length) = bodyR x.t r ++ rest := by rw [← List.drop_drop, hx1, List.drop_left]
    have h1 := hr x List.mem_cons_self
    rw [List.length_cons]
    unfold rdRcs
    rw [rdRc_ok hx1 hl h1]
    simp only
    rw [rdRcs_ok r _ x.t hx2 ⟨h1.1, h1.2.1⟩ (fun y hy => hr y (List.mem_cons_of_mem _ hy))]
    simp only [bodyR, List.length_append]
    rw [Nat.add_assoc]
/-- What was read, and one record more. -/
theorem rdRcs_next {xs : List Nat} {m : Nat} {last : Int} {p : Nat} : rdRcs xs (m + 1) last p = match rdRc xs last p with
    | none => none
    | some (x, p1) => (rdRcs xs m x.t p1).map fun q => (x :: q.1, q.2) := by
  show (match rdRc xs last p with
    | none => none
    | some (x, p1) => match rdRcs xs m x.t p1 with
      | none => none
      | some (l, p2) => some (x :: l, p2)) = _
  cases rdRc xs last p with
  | none => rfl
  | some q =>
    obtain ⟨x, p1⟩ := q
    simp only
    cases rdRcs xs m x.t p1 with
    | none => rfl
    | some q => rfl

/-- The batch of a body. -/
def parseR (xs : List Nat) : Option Bt := match rdFix xs 8 0 with
  | none => none
  | some (b, p1) => match rdFix xs 4 p1 with
    | none => none
    | some (e, p2) => match rdFix xs 2 p2 with
      | none => none
      | some (n, p3) => match rdInt xs (-4611686018427387904) 4611686018427387904 p3 with
        | none => none
        | some (l0, p4) => match rdRcs xs n l0 p4 with
          | none => none
          | some (r, p5) => if 65 < n ∨ p5 < xs.length then none else some ⟨IntKind.i64.wrap b, e, r⟩

theorem rdFix_ok {xs ys rest : List Nat} {p n : Nat} (hx : xs.drop p = ys ++ rest) (hn : ys.length = n) : rdFix xs n p = some (leV ys, p + n) := by
  unfold rdFix
  have hl : xs.length - p = ys.length + rest.length := by
    have := congrArg List.length hx
    simpa using this
  rw [if_neg (by omega), hx, ← hn, List.take_left]
theorem parseR_ok (x : Bt) (hok : BtOk x) : parseR (bodyB x) = some x := by
  obtain ⟨bn, hbn⟩ : ∃ n : Nat, x.b = (n : Int) := ⟨x.b.toNat, by have := hok.b0; omega⟩
  obtain ⟨en, hen⟩ : ∃ n : Nat, x.e = (n : Int) := ⟨x.e.toNat, by have := hok.e0; omega⟩
  have hb1 : bn ≤ 1099511627776 := by have := hok.b1; omega
  have he1 : en ≤ 1073741824 := by have := hok.e1; omega
  have hn64 := hok.n64
  obtain ⟨ht1, ht2⟩ := t0_in x hok
  obtain ⟨xs, hxs⟩ : ∃ xs, bodyB x = xs := ⟨_, rfl⟩
  have hform : xs = leB bn 8 ++ (leB en 4 ++ (leB x.r.length 2 ++ (vput (zig (t0 x)) ++ bodyR (t0 x) x.r))) := by
    rw [← hxs]; unfold bodyB headB; rw [hbn, hen]; simp [List.append_assoc]
  have h0 : xs.drop 0 = leB bn 8 ++ (leB en 4 ++ (leB x.r.length 2 ++ (vput (zig (t0 x)) ++ bodyR (t0 x) x.r))) := hform
  have hx8 : xs.drop 8 = leB en 4 ++ (leB x.r.length 2 ++ (vput (zig (t0 x)) ++ bodyR (t0 x) x.r)) := by rw [hform]; exact drop_len _ _ _ (leB_len _ _)
  have hx12 : xs.drop 12 = leB x.r.length 2 ++ (vput (zig (t0 x)) ++ bodyR (t0 x) x.r) := by rw [show (12 : Nat) = 8 + 4 from rfl, ← List.drop_drop, hx8]; exact drop_len _ _ _ (leB_len _ _)
  have hx14 : xs.drop 14 = vput (zig (t0 x)) ++ bodyR (t0 x) x.r := by rw [show (14 : Nat) = 12 + 2 from rfl, ← List.drop_drop, hx12]; exact drop_len _ _ _ (leB_len _ _)
  have l8 : leV (leB bn 8) = bn := by rw [leV_leB]; omega
  have l4 : leV (leB en 4) = en := by rw [leV_leB]; omega
  have l2 : leV (leB x.r.length 2) = x.r.length := by rw [leV_leB]; omega
  have hx15 : xs.drop (14 + (vput (zig (t0 x))).length) = bodyR (t0 x) x.r ++ [] := by rw [← List.drop_drop, hx14, List.drop_left, List.append_nil]
  have hfin : 14 + (vput (zig (t0 x))).length + (bodyR (t0 x) x.r).length = xs.length := by
    rw [hform]; simp only [List.length_append, leB_len]; omega
  rw [hxs]
  unfold parseR
  rw [rdFix_ok h0 (leB_len _ _)]
  simp only [Nat.zero_add]
  rw [rdFix_ok hx8 (leB_len _ _)]
  simp only [Nat.reduceAdd]
  rw [rdFix_ok hx12 (leB_len _ _)]
  simp only [Nat.reduceAdd]
  rw [rdInt_ok hx14 (by omega) (by omega) (by omega) (by omega), l2]
  simp only
  rw [rdRcs_ok x.r _ _ hx15 ⟨ht1, ht2⟩ hok.rs]
  simp only
  rw [if_neg (by rw [hfin]; omega), l8, l4]
  cases x
  simp only [Option.some.injEq, Bt.mk.injEq, and_true]
  dsimp only at hbn hen
  rw [hbn, hen]
  exact ⟨IntWalk.i64_in _ (by omega), rfl⟩
theorem rdRcs_len {xs : List Nat} : ∀ (m : Nat) (last : Int) (p : Nat) (l : List Rc) (q : Nat), rdRcs xs m last p = some (l, q) → l.length = m
  | 0, last, p, l, q, h => by
    simp only [rdRcs, Option.some.injEq, Prod.mk.injEq] at h
    rw [← h.1]; rfl
  | m + 1, last, p, l, q, h => by
    rw [rdRcs_next] at h
    cases hx : rdRc xs last p with
    | none => rw [hx] at h; cases h
    | some y =>
      rw [hx] at h
      simp only at h
      cases hy : rdRcs xs m y.1.t y.2 with
      | none => rw [hy] at h; cases h
      | some z =>
        rw [hy] at h
        simp only [Option.map_some, Option.some.injEq, Prod.mk.injEq] at h
        have := rdRcs_len m _ _ z.1 z.2 hy
        rw [← h.1, List.length_cons, this]
end Go.Proofs.YtncjffkpkmjgkaaGreatDoor.Sg

/-! Ud -/
namespace Go.Proofs.YtncjffkpkmjgkaaGreatDoor.Sg
open Go.RowKit Er Go.Maps

/-- '!=' out of '=='. -/
theorem neq_of_eql {Pr : Program} {ti t1 t2 : TypeId} {a b : Value} {w : World} {r : Bool} (h : (binOp .eql ti (.iface t1 a) (.iface t2 b)).run Pr w = .ok (.bool r) w) : (binOp .neq ti (.iface t1 a) (.iface t2 b)).run Pr w = .ok (.bool (!r)) w := by
  simp only [binOp] at h ⊢
  cases hx : (Op.equal ti (.iface t1 a) (.iface t2 b)).run Pr w with
  | ok v w' =>
    simp [hx] at h ⊢
    obtain ⟨rfl, rfl⟩ := h
    exact ⟨rfl, rfl⟩
  | _ => simp [hx] at h

def rdE (v : Value) (p : Nat) (er : Value) (i : Nat) : Value := if i = 0 then v else if i = 1 then .int .i64 p else er
/-- A reader that has an error. -/
structure RdE (w : World) (r : Nat) (v : Value) (xs : List Nat) : Prop where
  ex : ∃ (p : Nat) (t : TypeId) (a : Addr), w.rowIs r 228 3 (rdE v p (.iface t (.pointer (some a)))) ∧ p ≤ xs.length
  sl : SlB w v xs
  ne : v.ownBlock ≠ some r
  lt : xs.length ≤ 1099511627776
/-- A reader in any state. -/
def RdA (w : World) (r : Nat) (v : Value) (xs : List Nat) : Prop := (∃ p, RdV w r v xs p) ∨ RdE w r v xs
/-- A reader's bytes: none, or a row of its own. -/
def VS (v : Value) (xs : List Nat) : Prop := (v = .slice none 0 0 ∧ xs = []) ∨ ∃ g cap, v = .slice (some ⟨g, 0, none⟩) xs.length cap ∧ xs.length ≤ cap

theorem RdE.upd {M : List Nat} {w w' : World} {r : Nat} {v : Value} {xs : List Nat} (h : RdE w r v xs) (hu : Upd M w w') (hr : r ∉ M) (hne : ∀ k, k ∈ M → v.ownBlock ≠ some k) : RdE w' r v xs := by
  obtain ⟨p, t, a, h1, h2⟩ := h.ex
  exact ⟨⟨p, t, a, h1.of_block (hu.block r h1.lt hr), h2⟩, h.sl.upd hu hne, h.ne, h.lt⟩
theorem RdA.upd {M : List Nat} {w w' : World} {r : Nat} {v : Value} {xs : List Nat} (h : RdA w r v xs) (hu : Upd M w w') (hr : r ∉ M) (hne : ∀ k, k ∈ M → v.ownBlock ≠ some k) : RdA w' r v xs := by
  rcases h with ⟨p, h⟩ | h
  · exact .inl ⟨p, h.upd hu hr hne⟩
  · exact .inr (h.upd hu hr hne)
theorem RdE.below {B : Nat} {w w' : World} {r : Nat} {v : Value} {xs : List Nat} (h : RdE w r v xs) (hb : Below B w w') (hB : w.heap.size ≤ B) : RdE w' r v xs :=
  h.upd (Upd.of_below (M := []) hb hB) (by simp) (by simp)
theorem RdA.below {B : Nat} {w w' : World} {r : Nat} {v : Value} {xs : List Nat} (h : RdA w r v xs) (hb : Below B w w') (hB : w.heap.size ≤ B) : RdA w' r v xs :=
  h.upd (Upd.of_below (M := []) hb hB) (by simp) (by simp)
theorem RdA.lt {w : World} {r : Nat} {v : Value} {xs : List Nat} (h : RdA w r v xs) : r < w.heap.size := by
  rcases h with ⟨p, h⟩ | h
  · exact h.row.lt
  · obtain ⟨p, t, a, h1, -⟩ := h.ex; exact h1.lt
theorem RdA.sl {w : World} {r : Nat} {v : Value} {xs : List Nat} (h : RdA w r v xs) : SlB w v xs := by
  rcases h with ⟨p, h⟩ | h
  · exact h.sl
  · exact h.sl
theorem RdA.ne {w : World} {r : Nat} {v : Value} {xs : List Nat} (h : RdA w r v xs) : v.ownBlock ≠ some r := by
  rcases h with ⟨p, h⟩ | h
  · exact h.ne
  · exact h.ne
theorem Upd.drewN_l {M : List Nat} {w w' : World} {n : Nat} (h : Upd M (w.drewN n) w') : Upd M w w' := ⟨h.os, h.tape, h.output, h.size, h.block⟩
/-- A number with a sign, in one way. -/
theorem getint_one {S : List Nat} {E : Nat → Addr} {B : Nat} (h0 : 0 ∈ S) (h2 : 2 ∈ S) (v : Value) (xs : List Nat) (w : World) (hE : Errs S w E B) (h : SlB w v xs) (hb : ∀ y ∈ xs, y < 256) (hl : xs.length ≤ 1099511627776) :
    Calls Tryz.prog 202 #[v] w fun e w' => (∃ (z : Int) (k : Nat) (q : Value), e = .returned (.tuple #[.int .i64 z, .int .i64 k, q]) ∧ -9223372036854775808 ≤ z ∧ z < 9223372036854775808 ∧ k ≤ xs.length ∧ (q = .nilIface ∨ ∃ i, (i = 0 ∨ i = 2) ∧ q = .iface 289 (.pointer (some (E i))))) ∧ ∃ q, w' = w.drewN q := by
  refine (getint_any h0 h2 v xs w hE h hb hl).mono ?_
  rintro e w' ⟨⟨z, k, rfl, h1, h2, h3, h4, h5⟩ | ⟨i, hi, rfl⟩, h6⟩
  · exact ⟨⟨z, k, _, rfl, h1, h2, h4, .inl rfl⟩, h6⟩
  · exact ⟨⟨0, 0, _, rfl, by omega, by omega, by omega, .inr ⟨i, hi, rfl⟩⟩, h6⟩
theorem get_one {S : List Nat} {E : Nat → Addr} {B : Nat} (h0 : 0 ∈ S) (h2 : 2 ∈ S) (v : Value) (xs : List Nat) (w : World) (hE : Errs S w E B) (h : SlB w v xs) (hb : ∀ y ∈ xs, y < 256) (hl : xs.length ≤ 1099511627776) :
    Calls Tryz.prog 222 #[v] w fun e w' => (∃ (z : Nat) (k : Nat) (q : Value), e = .returned (.tuple #[.int .u64 z, .int .i64 k, q]) ∧ z < 18446744073709551616 ∧ k ≤ xs.length ∧ (q = .nilIface ∨ ∃ i, (i = 0 ∨ i = 2) ∧ q = .iface 289 (.pointer (some (E i))))) ∧ ∃ q, w' = w.drewN q := by
  refine (get_any h0 h2 v xs w hE h hb hl).mono ?_
  rintro e w' ⟨⟨z, k, rfl, h1, h3, h4, h5⟩ | ⟨i, hi, rfl⟩, h6⟩
  · exact ⟨⟨z, k, _, rfl, h1, h4, .inl rfl⟩, h6⟩
  · exact ⟨⟨0, 0, _, rfl, by omega, by omega, .inr ⟨i, hi, rfl⟩⟩, h6⟩

section
variable {S : List Nat} {E : Nat → Addr} {B : Nat} {w : World} {r p : Nat} {v : Value} {xs : List Nat}
set_option maxRecDepth 100000 in
set_option maxHeartbeats 1000000 in
/-- An error is noted: the reader has one. -/
theorem bad_any (h0 : 0 ∈ S) (i : Nat) (hi : i ∈ S) (hE : Errs S w E B) (hB : B ≤ r) (q : Nat) (hq : q ≤ xs.length) (h : RdV w r v xs p) :
    Calls Tryz.prog 175 #[.pointer (some ⟨r, 0, none⟩), .int .i64 q, .iface 289 (.pointer (some (E i)))] w fun e w' => e = .returned (.tuple #[]) ∧ RdE w' r v xs ∧ w'.cell? ⟨r, 1, none⟩ = some (.int .i64 q) ∧ Upd [r] w w' := by
  have f1 := h.row.frozen 1
  have f2 := h.row.frozen 2
  have c1 := h.c1
  have c2 := h.c2
  have hlo := hE.lo
  have cE : w.cell? ⟨10, 0, none⟩ = some (.iface 289 (.pointer (some (E 0)))) := hE.at_ 0 h0
  have hg0 := gid_lt 0 (by omega)
  have hgr : ¬ 10 = r := by have : gid 0 = 10 := rfl; omega
  have hgr2 : ¬ r = 10 := fun e => hgr e.symm
  have hrl := h.row.lt
  obtain ⟨w1, hw1⟩ : ∃ w1, (w.setCell ⟨r, 1, none⟩ (.int .i64 q)).setCell ⟨r, 2, none⟩ (.iface 289 (.pointer (some (E i)))) = w1 := ⟨_, rfl⟩
  have hrow1 : w1.rowIs r 228 3 (rdE v q (.iface 289 (.pointer (some (E i))))) := by
    rw [← hw1]
    exact ((h.row.set 1 (.int .i64 q)).set 2 (.iface 289 (.pointer (some (E i))))).congr (fun k hk => by rcases (show k = 0 ∨ k = 1 ∨ k = 2 by omega) with rfl | rfl | rfl <;> simp [rdE, rdF])
  have hu1 : Upd [r] w w1 := by rw [← hw1]; exact ((Upd.refl _ _).setCell _ _ _ (.inl (by simp))).setCell _ _ _ (.inl (by simp))
  have hsl1 : SlB w1 v xs := h.sl.upd hu1 (fun k hk => by simp at hk; rw [hk]; exact h.ne)
  have hE1 : Errs S w1 E B := hE.below (hu1.to_below hE.hi (fun k hk => by simp at hk; omega))
  have he := neq_of_eql (eql_errs hE1 i 0 hi h0)
  have ce1 : w1.cell? ⟨10, 0, none⟩ = some (.iface 289 (.pointer (some (E 0)))) := hE1.at_ 0 h0
  have ff2 := hrow1.frozen 2
  have cw2 := hrow1.cell (i := 2) (by omega)
  rw [show rdE v q (.iface 289 (.pointer (some (E i)))) 2 = .iface 289 (.pointer (some (E i))) from rfl] at cw2
  have HR1 := Lib.hid hrow1
  have HU1 := Lib.hid hu1
  have HSL := Lib.hid hsl1
  have HNE := Lib.hid h.ne
  have HLT := Lib.hid h.lt
  clear hu1 hsl1 hE1 hE h hg0 hlo hrow1 cE
  by_cases hz : i = 0
  · subst hz
    rw [show (!((0 : Nat) == 0)) = false from rfl] at he
    go_enter Tryz.func175, Tryz.ntmps175
    go_wp2_with fail
    go_end0
    exact ⟨rfl, ⟨⟨q, _, _, HR1.out, hq⟩, HSL.out, HNE.out, HLT.out⟩, HR1.out.cell (i := 1) (by omega), HU1.out⟩
  · have hz' : (i == 0) = false := beq_eq_false_iff_ne.2 hz
    rw [hz', show (!false) = true from rfl] at he
    have hra := HR1.out.alloc (.cells #[.int .i64 q, .iface 289 (.pointer (some (E i)))] 208)
    have ff3 := hra.frozen 2
    have cw3 := hra.cell (i := 2) (by omega)
    rw [show rdE v q (.iface 289 (.pointer (some (E i)))) 2 = .iface 289 (.pointer (some (E i))) from rfl] at cw3
    clear hra
    go_enter Tryz.func175, Tryz.ntmps175
    go_wp2_with fail
    go_end0
    have hu2 := HU1.out.alloc (.cells #[.int .i64 q, .iface 289 (.pointer (some (E i)))] 208)
    have hr2 := ((HR1.out.alloc (.cells #[.int .i64 q, .iface 289 (.pointer (some (E i)))] 208)).set 2 (.iface 204 (.pointer (some ⟨w1.heap.size, 0, none⟩)))).congr (g := rdE v q (.iface 204 (.pointer (some ⟨w1.heap.size, 0, none⟩)))) (fun k hk => by rcases (show k = 0 ∨ k = 1 ∨ k = 2 by omega) with rfl | rfl | rfl <;> simp [rdE])
    have hu3 := hu2.setCell r 2 (.iface 204 (.pointer (some ⟨w1.heap.size, 0, none⟩))) (.inl (by simp))
    have hu4 : Upd [r] w1 (((w1.alloc (.cells #[.int .i64 q, .iface 289 (.pointer (some (E i)))] 208)).setCell ⟨r, 2, none⟩ (.iface 204 (.pointer (some ⟨w1.heap.size, 0, none⟩))))) := ((Upd.refl _ _).alloc _).setCell r 2 _ (.inl (by simp))
    refine ⟨rfl, ⟨⟨q, _, _, hr2, hq⟩, HSL.out.upd hu4 (fun k hk => by simp at hk; rw [hk]; exact HNE.out), HNE.out, HLT.out⟩, hr2.cell (i := 1) (by omega), hu3⟩

theorem RdE.c2 (h : RdE w r v xs) : ∃ t a, w.cell? ⟨r, 2, none⟩ = some (.iface t (.pointer (some a))) := by
  obtain ⟨p, t, a, h1, -⟩ := h.ex
  exact ⟨t, a, h1.cell (i := 2) (by omega)⟩
set_option maxRecDepth 100000 in
theorem err_e (h : RdE w r v xs) : Calls Tryz.prog 178 #[.pointer (some ⟨r, 0, none⟩)] w fun e w' => (∃ t a, e = .returned (.iface t (.pointer (some a)))) ∧ w = w' := by
  obtain ⟨t, a, c2⟩ := h.c2
  clear h
  go_enter Tryz.func178, Tryz.ntmps178
  go_wp2_with fail
  go_ret
  exact ⟨⟨t, a, rfl⟩, rfl⟩

set_option maxRecDepth 100000 in
theorem int_e (a b : Int) (ha : a ≤ 0) (hb : 0 ≤ b) (h : RdE w r v xs) : Calls Tryz.prog 177 #[.pointer (some ⟨r, 0, none⟩), .int .i64 a, .int .i64 b] w fun e w' => (∃ z : Int, e = .returned (.int .i64 z) ∧ a ≤ z ∧ z ≤ b) ∧ w = w' := by
  obtain ⟨t, x, c2⟩ := h.c2
  clear h
  go_enter Tryz.func177, Tryz.ntmps177
  go_wp2_with fail
  go_ret
  exact ⟨⟨0, rfl, ha, hb⟩, rfl⟩

set_option maxRecDepth 100000 in
set_option maxHeartbeats 4000000 in
theorem int_v (h0 : 0 ∈ S) (h2 : 2 ∈ S) (h4 : 4 ∈ S) (a b : Int) (ha : a ≤ 0) (hb : 0 ≤ b) (hE : Errs S w E B) (hB : B ≤ r) (hby : ∀ y ∈ xs, y < 256) (hv : VS v xs) (h : RdV w r v xs p) :
    Calls Tryz.prog 177 #[.pointer (some ⟨r, 0, none⟩), .int .i64 a, .int .i64 b] w fun e w' => (∃ z : Int, e = .returned (.int .i64 z) ∧ a ≤ z ∧ z ≤ b) ∧ RdA w' r v xs ∧ Upd [r] w w' := by
  have hle := h.le
  have hlt := h.lt
  have HR := Lib.hid h
  have hdl : (xs.drop p).length ≤ 1099511627776 := by simp; omega
  have hby2 : ∀ y ∈ xs.drop p, y < 256 := fun y hy => hby y (List.mem_of_mem_drop hy)
  have HDL := Lib.hid hdl
  have HBY := Lib.hid hby2
  have HEW : Hid (∀ wz, Below w.heap.size w wz → Errs S wz E B) := fun wz hz => hE.below (hz.mono hE.hi)
  have c0 := h.c0
  have c1 := h.c1
  have c2 := h.c2
  have hf := h.row.frozen 1
  have HSL := Lib.hid h.sl
  have ce4 : w.cell? ⟨0, 0, none⟩ = some (.iface 289 (.pointer (some (E 4)))) := hE.at_ 4 h4
  have HDR : Hid ((xs.drop p).length = xs.length - p) := List.length_drop
  have hbad : ∀ i, i ∈ S → ∀ wz, Below w.heap.size w wz → Calls Tryz.prog 175 #[.pointer (some ⟨r, 0, none⟩), .int .i64 p, .iface 289 (.pointer (some (E i)))] wz fun e w' => e = .returned (.tuple #[]) ∧ RdE w' r v xs ∧ Upd [r] w w' := fun i hi wz hz => by
    refine (bad_any (p := p) h0 i hi (hE.below (hz.mono hE.hi)) hB p hle (h.below hz (Nat.le_refl _))).mono ?_
    rintro e w' ⟨rfl, q1, -, q2⟩
    exact ⟨rfl, q1, (Upd.of_below hz (Nat.le_refl _)).trans q2⟩
  have HBAD := Lib.hid hbad
  have HV := Lib.hid hv
  obtain ⟨n, hn⟩ : ∃ n, xs.length = n := ⟨_, rfl⟩
  have HN := Lib.hid hn
  have hcs : v = .slice none 0 0 ∧ xs = [] ∨ ∃ g cap, v = .slice (some ⟨g, 0, none⟩) n cap ∧ n ≤ cap := by rw [← hn]; exact hv
  rw [hn] at hle hlt
  clear hbad hdl hby2 hE h hn hv
  rcases hcs with ⟨hv1, hx1⟩ | ⟨g, cap, hv1, hcap⟩
  case inl =>
    have hp0 : p = 0 := by have := HN.out; rw [hx1] at this; simp at this; omega
    have HS : Hid (∀ wz, Below w.heap.size w wz → SlB wz (.slice none 0 0) (xs.drop p)) := fun wz hz => .inl ⟨rfl, by rw [hx1]; simp⟩
    rw [hv1] at c0
    have HP0 := Lib.hid hp0
    have HBAD0 : Hid (∀ i, i ∈ S → ∀ wz, Below w.heap.size w wz → Calls Tryz.prog 175 #[.pointer (some ⟨r, 0, none⟩), .int .i64 0, .iface 289 (.pointer (some (E i)))] wz fun e w' => e = .returned (.tuple #[]) ∧ RdE w' r v xs ∧ Upd [r] w w') := by
      have h := HBAD.out
      rw [hp0] at h
      exact h
    clear hx1 hv1
    rw [hp0] at c1 hle
    clear hp0
    go_enter Tryz.func177, Tryz.ntmps177
    go_wp2_with fail
    go_region_held3 (fun w' => w'.cell? ⟨r, 0, none⟩ = some (.slice none 0 0) ∧ w'.cell? ⟨r, 1, none⟩ = some (.int .i64 ((0 : Nat) : Int))) (go_keep)
      (first
        | (with_reducible refine (getint_one (E := E) (B := B) h0 h2 _ _ _ ?_ ?_ HBY.out HDL.out).mono ?_
           · exact HEW.out _ (below_drewN (Below.refl _ _) _)
           · exact HS.out _ (below_drewN (Below.refl _ _) _)
           rintro e w' ⟨⟨z, k, q, rfl, HZQ⟩, nz, rfl⟩))
    obtain ⟨hz1, hz2, hk, hq⟩ := HZQ
    rw [HDR.out, HN.out] at hk
    rcases hq with rfl | ⟨i, hi, rfl⟩
    · rcases (show (¬ z < a ∧ ¬ b < z) ∨ z < a ∨ (¬ z < a ∧ b < z) by omega) with ⟨j1, j2⟩ | j1 | ⟨j1, j2⟩
      · go_wp2_with fail
        go_ret
        refine ⟨⟨z, rfl, by omega⟩, .inl ⟨k, ?_⟩, ?_⟩
        · exact (HR.out.below (below_drewN (Below.refl _ _) _) (Nat.le_refl _)).set (k) (by rw [HN.out]; omega)
        · refine Upd.setCell ?_ _ _ _ (.inl (by simp))
          exact Upd.of_below (M := [r]) (by first | exact below_drewN (Below.refl _ _) _ | exact below_drewN (below_drewN (Below.refl _ _) _) _ | exact below_drewN (Below.refl _ _).drew _) (Nat.le_refl _)
      · go_wp2_with fail
        refine (HBAD0.out 4 h4 _ ?_).mono ?_
        · first | exact below_drewN (Below.refl _ _) _ | exact below_drewN (below_drewN (Below.refl _ _) _) _ | exact below_drewN (Below.refl _ _).drew _
        rintro e w' ⟨rfl, q1, q2⟩
        have Q1 := Lib.hid q1
        have Q2 := Lib.hid q2
        clear q1 q2
        go_wp2_with fail
        go_ret
        exact ⟨⟨0, rfl, ha, hb⟩, .inr Q1.out, Q2.out⟩
      · go_wp2_with fail
        refine (HBAD0.out 4 h4 _ ?_).mono ?_
        · first | exact below_drewN (Below.refl _ _) _ | exact below_drewN (below_drewN (Below.refl _ _) _) _ | exact below_drewN (Below.refl _ _).drew _
        rintro e w' ⟨rfl, q1, q2⟩
        have Q1 := Lib.hid q1
        have Q2 := Lib.hid q2
        clear q1 q2
        go_wp2_with fail
        go_ret
        exact ⟨⟨0, rfl, ha, hb⟩, .inr Q1.out, Q2.out⟩
    · have hiS : i ∈ S := by rcases hi with rfl | rfl <;> assumption
      go_wp2_with fail
      refine (HBAD0.out i hiS _ ?_).mono ?_
      · first | exact below_drewN (Below.refl _ _) _ | exact below_drewN (below_drewN (Below.refl _ _) _) _ | exact below_drewN (Below.refl _ _).drew _
      rintro e w' ⟨rfl, q1, q2⟩
      have Q1 := Lib.hid q1
      have Q2 := Lib.hid q2
      clear q1 q2
      go_wp2_with fail
      go_ret
      exact ⟨⟨0, rfl, ha, hb⟩, .inr Q1.out, Q2.out⟩
  case' inr =>
    have hsl : SlB w (.slice (some ⟨g, 0, none⟩) n cap) xs := by have := HSL.out; rw [hv1] at this; exact this
    rw [hv1] at c0
    clear hv1
    have i1 : (0 : Int) ≤ (p : Int) := by omega
    have i2 : (p : Int) ≤ (n : Int) := by omega
    have i3 : (n : Int) ≤ (cap : Int) := by omega
    by_cases hcq : cap = p
    case' pos =>
      have hnp : n = p := by omega
      have HS : Hid (∀ wz, Below w.heap.size w wz → SlB wz (.slice (some ⟨g, 0, none⟩) 0 0) (xs.drop p)) := fun wz hz => .inr (.inr ⟨_, 0, rfl, by rw [List.drop_of_length_le (by rw [HN.out]; omega)]⟩)
      have hcq2 := hcq.symm
      clear hcq
      subst hcq2
      rw [hnp] at c0
      clear hsl hnp i2 i3 hcap
      go_enter Tryz.func177, Tryz.ntmps177
      go_wp2_with fail
      go_region_held3 (fun w' => w'.cell? ⟨r, 0, none⟩ = some (.slice (some ⟨g, 0, none⟩) p p) ∧ w'.cell? ⟨r, 1, none⟩ = some (.int .i64 (p : Int))) (go_keep)
        (first
          | (with_reducible refine (getint_one (E := E) (B := B) h0 h2 _ _ _ ?_ ?_ HBY.out HDL.out).mono ?_
             · exact HEW.out _ (below_drewN (Below.refl _ _) _)
             · exact HS.out _ (below_drewN (Below.refl _ _) _)
             rintro e w' ⟨⟨z, k, q, rfl, HZQ⟩, nz, rfl⟩))
    case' neg =>
      have hs2 : SlB w (.slice (some ⟨g, p, none⟩) (n - p) (cap - p)) (xs.drop p) := by
        have := hsl.drop (p := p) (by rw [HN.out]; omega) (m := n - p) (by rw [HN.out]; omega) (cap - p) (by omega)
        rwa [List.take_of_length_le (by rw [HDR.out, HN.out]; exact Nat.le_refl _), Nat.zero_add] at this
      have HS : Hid (∀ wz, Below w.heap.size w wz → SlB wz (.slice (some ⟨g, p, none⟩) (n - p) (cap - p)) (xs.drop p)) := fun wz hz => hs2.below hz rfl
      clear hsl hs2
      go_enter Tryz.func177, Tryz.ntmps177
      go_wp2_with fail
      go_region_held3 (fun w' => w'.cell? ⟨r, 0, none⟩ = some (.slice (some ⟨g, 0, none⟩) n cap) ∧ w'.cell? ⟨r, 1, none⟩ = some (.int .i64 (p : Int))) (go_keep)
        (first
          | (with_reducible refine (getint_one (E := E) (B := B) h0 h2 _ _ _ ?_ ?_ HBY.out HDL.out).mono ?_
             · exact HEW.out _ (below_drewN (Below.refl _ _) _)
             · exact HS.out _ (below_drewN (Below.refl _ _) _)
             rintro e w' ⟨⟨z, k, q, rfl, HZQ⟩, nz, rfl⟩))
  all_goals
    obtain ⟨hz1, hz2, hk, hq⟩ := HZQ
    rw [HDR.out, HN.out] at hk
    rcases hq with rfl | ⟨i, hi, rfl⟩
    · rcases (show (¬ z < a ∧ ¬ b < z) ∨ z < a ∨ (¬ z < a ∧ b < z) by omega) with ⟨j1, j2⟩ | j1 | ⟨j1, j2⟩
      · go_wp2_with fail
        go_ret
        rw [show ((p : Int) + (k : Int)) = ((p + k : Nat) : Int) from by omega]
        refine ⟨⟨z, rfl, by omega⟩, .inl ⟨p + k, ?_⟩, ?_⟩
        · exact (HR.out.below (below_drewN (Below.refl _ _) _) (Nat.le_refl _)).set (p + k) (by rw [HN.out]; omega)
        · refine Upd.setCell ?_ _ _ _ (.inl (by simp))
          exact Upd.of_below (M := [r]) (by first | exact below_drewN (Below.refl _ _) _ | exact below_drewN (below_drewN (Below.refl _ _) _) _ | exact below_drewN (Below.refl _ _).drew _) (Nat.le_refl _)
      · go_wp2_with fail
        refine (HBAD.out 4 h4 _ ?_).mono ?_
        · first | exact below_drewN (Below.refl _ _) _ | exact below_drewN (below_drewN (Below.refl _ _) _) _ | exact below_drewN (Below.refl _ _).drew _
        rintro e w' ⟨rfl, q1, q2⟩
        have Q1 := Lib.hid q1
        have Q2 := Lib.hid q2
        clear q1 q2
        go_wp2_with fail
        go_ret
        exact ⟨⟨0, rfl, ha, hb⟩, .inr Q1.out, Q2.out⟩
      · go_wp2_with fail
        refine (HBAD.out 4 h4 _ ?_).mono ?_
        · first | exact below_drewN (Below.refl _ _) _ | exact below_drewN (below_drewN (Below.refl _ _) _) _ | exact below_drewN (Below.refl _ _).drew _
        rintro e w' ⟨rfl, q1, q2⟩
        have Q1 := Lib.hid q1
        have Q2 := Lib.hid q2
        clear q1 q2
        go_wp2_with fail
        go_ret
        exact ⟨⟨0, rfl, ha, hb⟩, .inr Q1.out, Q2.out⟩
    · have hiS : i ∈ S := by rcases hi with rfl | rfl <;> assumption
      go_wp2_with fail
      refine (HBAD.out i hiS _ ?_).mono ?_
      · first | exact below_drewN (Below.refl _ _) _ | exact below_drewN (below_drewN (Below.refl _ _) _) _ | exact below_drewN (Below.refl _ _).drew _
      rintro e w' ⟨rfl, q1, q2⟩
      have Q1 := Lib.hid q1
      have Q2 := Lib.hid q2
      clear q1 q2
      go_wp2_with fail
      go_ret
      exact ⟨⟨0, rfl, ha, hb⟩, .inr Q1.out, Q2.out⟩

set_option maxRecDepth 100000 in
theorem num_e (most : Nat) (h : RdE w r v xs) : Calls Tryz.prog 203 #[.pointer (some ⟨r, 0, none⟩), .int .u64 most] w fun e w' => (∃ z : Nat, e = .returned (.int .u64 z) ∧ z ≤ most) ∧ w = w' := by
  obtain ⟨t, x, c2⟩ := h.c2
  clear h
  go_enter Tryz.func203, Tryz.ntmps203
  go_wp2_with fail
  go_ret
  exact ⟨⟨0, rfl, Nat.zero_le _⟩, rfl⟩

set_option maxRecDepth 100000 in
set_option maxHeartbeats 4000000 in
theorem num_v (h0 : 0 ∈ S) (h2 : 2 ∈ S) (h4 : 4 ∈ S) (most : Nat) (hE : Errs S w E B) (hB : B ≤ r) (hby : ∀ y ∈ xs, y < 256) (hv : VS v xs) (h : RdV w r v xs p) :
    Calls Tryz.prog 203 #[.pointer (some ⟨r, 0, none⟩), .int .u64 most] w fun e w' => (∃ z : Nat, e = .returned (.int .u64 z) ∧ z ≤ most) ∧ RdA w' r v xs ∧ Upd [r] w w' := by
  have hle := h.le
  have hlt := h.lt
  have HR := Lib.hid h
  have hdl : (xs.drop p).length ≤ 1099511627776 := by simp; omega
  have hby2 : ∀ y ∈ xs.drop p, y < 256 := fun y hy => hby y (List.mem_of_mem_drop hy)
  have HDL := Lib.hid hdl
  have HBY := Lib.hid hby2
  have HEW : Hid (∀ wz, Below w.heap.size w wz → Errs S wz E B) := fun wz hz => hE.below (hz.mono hE.hi)
  have c0 := h.c0
  have c1 := h.c1
  have c2 := h.c2
  have hf := h.row.frozen 1
  have HSL := Lib.hid h.sl
  have ce4 : w.cell? ⟨0, 0, none⟩ = some (.iface 289 (.pointer (some (E 4)))) := hE.at_ 4 h4
  have HDR : Hid ((xs.drop p).length = xs.length - p) := List.length_drop
  have hbad : ∀ i, i ∈ S → ∀ wz, Below w.heap.size w wz → Calls Tryz.prog 175 #[.pointer (some ⟨r, 0, none⟩), .int .i64 p, .iface 289 (.pointer (some (E i)))] wz fun e w' => e = .returned (.tuple #[]) ∧ RdE w' r v xs ∧ Upd [r] w w' := fun i hi wz hz => by
    refine (bad_any (p := p) h0 i hi (hE.below (hz.mono hE.hi)) hB p hle (h.below hz (Nat.le_refl _))).mono ?_
    rintro e w' ⟨rfl, q1, -, q2⟩
    exact ⟨rfl, q1, (Upd.of_below hz (Nat.le_refl _)).trans q2⟩
  have HBAD := Lib.hid hbad
  have HV := Lib.hid hv
  obtain ⟨n, hn⟩ : ∃ n, xs.length = n := ⟨_, rfl⟩
  have HN := Lib.hid hn
  have hcs : v = .slice none 0 0 ∧ xs = [] ∨ ∃ g cap, v = .slice (some ⟨g, 0, none⟩) n cap ∧ n ≤ cap := by rw [← hn]; exact hv
  rw [hn] at hle hlt
  clear hbad hdl hby2 hE h hn hv
  rcases hcs with ⟨hv1, hx1⟩ | ⟨g, cap, hv1, hcap⟩
  case inl =>
    have hp0 : p = 0 := by have := HN.out; rw [hx1] at this; simp at this; omega
    have HS : Hid (∀ wz, Below w.heap.size w wz → SlB wz (.slice none 0 0) (xs.drop p)) := fun wz hz => .inl ⟨rfl, by rw [hx1]; simp⟩
    rw [hv1] at c0
    have HP0 := Lib.hid hp0
    have HBAD0 : Hid (∀ i, i ∈ S → ∀ wz, Below w.heap.size w wz → Calls Tryz.prog 175 #[.pointer (some ⟨r, 0, none⟩), .int .i64 0, .iface 289 (.pointer (some (E i)))] wz fun e w' => e = .returned (.tuple #[]) ∧ RdE w' r v xs ∧ Upd [r] w w') := by
      have h := HBAD.out
      rw [hp0] at h
      exact h
    clear hx1 hv1
    rw [hp0] at c1 hle
    clear hp0
    go_enter Tryz.func203, Tryz.ntmps203
    go_wp2_with fail
    go_region_held3 (fun w' => w'.cell? ⟨r, 0, none⟩ = some (.slice none 0 0) ∧ w'.cell? ⟨r, 1, none⟩ = some (.int .i64 ((0 : Nat) : Int))) (go_keep)
      (first
        | (with_reducible refine (get_one (E := E) (B := B) h0 h2 _ _ _ ?_ ?_ HBY.out HDL.out).mono ?_
           · exact HEW.out _ (below_drewN (Below.refl _ _) _)
           · exact HS.out _ (below_drewN (Below.refl _ _) _)
           rintro e w' ⟨⟨z, k, q, rfl, HZQ⟩, nz, rfl⟩))
    obtain ⟨hz2, hk, hq⟩ := HZQ
    rw [HDR.out, HN.out] at hk
    rcases hq with rfl | ⟨i, hi, rfl⟩
    · rcases (show (¬ (most : Int) < (z : Int)) ∨ (most : Int) < (z : Int) by omega) with j1 | j1
      · go_wp2_with fail
        go_ret
        refine ⟨⟨z, rfl, by omega⟩, .inl ⟨k, ?_⟩, ?_⟩
        · exact (HR.out.below (below_drewN (Below.refl _ _) _) (Nat.le_refl _)).set (k) (by rw [HN.out]; omega)
        · refine Upd.setCell ?_ _ _ _ (.inl (by simp))
          exact Upd.of_below (M := [r]) (by first | exact below_drewN (Below.refl _ _) _ | exact below_drewN (below_drewN (Below.refl _ _) _) _ | exact below_drewN (Below.refl _ _).drew _) (Nat.le_refl _)
      · go_wp2_with fail
        refine (HBAD0.out 4 h4 _ ?_).mono ?_
        · first | exact below_drewN (Below.refl _ _) _ | exact below_drewN (below_drewN (Below.refl _ _) _) _ | exact below_drewN (Below.refl _ _).drew _
        rintro e w' ⟨rfl, q1, q2⟩
        have Q1 := Lib.hid q1
        have Q2 := Lib.hid q2
        clear q1 q2
        go_wp2_with fail
        go_ret
        exact ⟨⟨0, rfl, Nat.zero_le _⟩, .inr Q1.out, Q2.out⟩
    · have hiS : i ∈ S := by rcases hi with rfl | rfl <;> assumption
      go_wp2_with fail
      refine (HBAD0.out i hiS _ ?_).mono ?_
      · first | exact below_drewN (Below.refl _ _) _ | exact below_drewN (below_drewN (Below.refl _ _) _) _ | exact below_drewN (Below.refl _ _).drew _
      rintro e w' ⟨rfl, q1, q2⟩
      have Q1 := Lib.hid q1
      have Q2 := Lib.hid q2
      clear q1 q2
      go_wp2_with fail
      go_ret
      exact ⟨⟨0, rfl, Nat.zero_le _⟩, .inr Q1.out, Q2.out⟩
  case' inr =>
    have hsl : SlB w (.slice (some ⟨g, 0, none⟩) n cap) xs := by have := HSL.out; rw [hv1] at this; exact this
    rw [hv1] at c0
    clear hv1
    have i1 : (0 : Int) ≤ (p : Int) := by omega
    have i2 : (p : Int) ≤ (n : Int) := by omega
    have i3 : (n : Int) ≤ (cap : Int) := by omega
    by_cases hcq : cap = p
    case' pos =>
      have hnp : n = p := by omega
      have HS : Hid (∀ wz, Below w.heap.size w wz → SlB wz (.slice (some ⟨g, 0, none⟩) 0 0) (xs.drop p)) := fun wz hz => .inr (.inr ⟨_, 0, rfl, by rw [List.drop_of_length_le (by rw [HN.out]; omega)]⟩)
      have hcq2 := hcq.symm
      clear hcq
      subst hcq2
      rw [hnp] at c0
      clear hsl hnp i2 i3 hcap
      go_enter Tryz.func203, Tryz.ntmps203
      go_wp2_with fail
      go_region_held3 (fun w' => w'.cell? ⟨r, 0, none⟩ = some (.slice (some ⟨g, 0, none⟩) p p) ∧ w'.cell? ⟨r, 1, none⟩ = some (.int .i64 (p : Int))) (go_keep)
        (first
          | (with_reducible refine (get_one (E := E) (B := B) h0 h2 _ _ _ ?_ ?_ HBY.out HDL.out).mono ?_
             · exact HEW.out _ (below_drewN (Below.refl _ _) _)
             · exact HS.out _ (below_drewN (Below.refl _ _) _)
             rintro e w' ⟨⟨z, k, q, rfl, HZQ⟩, nz, rfl⟩))
    case' neg =>
      have hs2 : SlB w (.slice (some ⟨g, p, none⟩) (n - p) (cap - p)) (xs.drop p) := by
        have := hsl.drop (p := p) (by rw [HN.out]; omega) (m := n - p) (by rw [HN.out]; omega) (cap - p) (by omega)
        rwa [List.take_of_length_le (by rw [HDR.out, HN.out]; exact Nat.le_refl _), Nat.zero_add] at this
      have HS : Hid (∀ wz, Below w.heap.size w wz → SlB wz (.slice (some ⟨g, p, none⟩) (n - p) (cap - p)) (xs.drop p)) := fun wz hz => hs2.below hz rfl
      clear hsl hs2
      go_enter Tryz.func203, Tryz.ntmps203
      go_wp2_with fail
      go_region_held3 (fun w' => w'.cell? ⟨r, 0, none⟩ = some (.slice (some ⟨g, 0, none⟩) n cap) ∧ w'.cell? ⟨r, 1, none⟩ = some (.int .i64 (p : Int))) (go_keep)
        (first
          | (with_reducible refine (get_one (E := E) (B := B) h0 h2 _ _ _ ?_ ?_ HBY.out HDL.out).mono ?_
             · exact HEW.out _ (below_drewN (Below.refl _ _) _)
             · exact HS.out _ (below_drewN (Below.refl _ _) _)
             rintro e w' ⟨⟨z, k, q, rfl, HZQ⟩, nz, rfl⟩))
  all_goals
    obtain ⟨hz2, hk, hq⟩ := HZQ
    rw [HDR.out, HN.out] at hk
    rcases hq with rfl | ⟨i, hi, rfl⟩
    · rcases (show (¬ (most : Int) < (z : Int)) ∨ (most : Int) < (z : Int) by omega) with j1 | j1
      · go_wp2_with fail
        go_ret
        rw [show ((p : Int) + (k : Int)) = ((p + k : Nat) : Int) from by omega]
        refine ⟨⟨z, rfl, by omega⟩, .inl ⟨p + k, ?_⟩, ?_⟩
        · exact (HR.out.below (below_drewN (Below.refl _ _) _) (Nat.le_refl _)).set (p + k) (by rw [HN.out]; omega)
        · refine Upd.setCell ?_ _ _ _ (.inl (by simp))
          exact Upd.of_below (M := [r]) (by first | exact below_drewN (Below.refl _ _) _ | exact below_drewN (below_drewN (Below.refl _ _) _) _ | exact below_drewN (Below.refl _ _).drew _) (Nat.le_refl _)
      · go_wp2_with fail
        refine (HBAD.out 4 h4 _ ?_).mono ?_
        · first | exact below_drewN (Below.refl _ _) _ | exact below_drewN (below_drewN (Below.refl _ _) _) _ | exact below_drewN (Below.refl _ _).drew _
        rintro e w' ⟨rfl, q1, q2⟩
        have Q1 := Lib.hid q1
        have Q2 := Lib.hid q2
        clear q1 q2
        go_wp2_with fail
        go_ret
        exact ⟨⟨0, rfl, Nat.zero_le _⟩, .inr Q1.out, Q2.out⟩
    · have hiS : i ∈ S := by rcases hi with rfl | rfl <;> assumption
      go_wp2_with fail
      refine (HBAD.out i hiS _ ?_).mono ?_
      · first | exact below_drewN (Below.refl _ _) _ | exact below_drewN (below_drewN (Below.refl _ _) _) _ | exact below_drewN (Below.refl _ _).drew _
      rintro e w' ⟨rfl, q1, q2⟩
      have Q1 := Lib.hid q1
      have Q2 := Lib.hid q2
      clear q1 q2
      go_wp2_with fail
      go_ret
      exact ⟨⟨0, rfl, Nat.zero_le _⟩, .inr Q1.out, Q2.out⟩
end
end Go.Proofs.YtncjffkpkmjgkaaGreatDoor.Sg
