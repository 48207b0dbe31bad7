/- The table of powers and the errors out of the list of SegBytes' row. An argument of type api.Batch, opened: what it holds in memory. The statement SegBytes of chapter 7 holds for every input: the call returns true and leaves its arguments as they were. -/
import Derived.Test.YtncjffkpkmjgkaaGreatDoorMf
import Derived.Test.YtncjffkpkmjgkaaGreatDoorRows
import Derived.Test.YtncjffkpkmjgkaaGreatDoorMa
import Derived.Test.YtncjffkpkmjgkaaGreatDoorMsc
import Derived.Test.YtncjffkpkmjgkaaGreatDoorCards
import Derived.Test.YtncjffkpkmjgkaaGreatDoorTie
import Derived.Stop.LaidErr
import Derived.Deep.Strs
import Derived.Lib.SmallJoins
import Derived.ProofKit
import Derived.OpenShut
import Derived.DataShut
import Derived.LaidMore
import Derived.Deep.DeepWitnessRowRef

/-! Cz -/
namespace Go.Proofs.YtncjffkpkmjgkaaGreatDoor.Sg
open Go.RowKit Er

def b11 : List Nat := [0, 1, 2, 3, 4, 5, 6, 7, 8, 9, 14]
theorem b11_all : ∀ i, i < 10 ∨ i = 14 → i ∈ b11 := by
  intro i hi
  rcases hi with hi | rfl
  · have : ∀ j : Fin 10, j.val ∈ b11 := by decide
    exact this ⟨i, hi⟩
  · decide

theorem tab_of3 {rest : List (String × DataW Unit)} {W : World} (h : laidMet Tryz.prog (("math/bits.deBruijn32tab", Rows.laid_math_bits_deBruijn32tab) :: ("math/bits.deBruijn64tab", Rows.laid_math_bits_deBruijn64tab) :: ("internal/strconv.uint64pow10", Rows.laid_internal_strconv_uint64pow10) :: rest) W) :
    Lib.TabIs Tryz.prog W "internal/strconv.uint64pow10" .u64 Lib.pow10Tab ∧ laidMet Tryz.prog rest W := by
  have h2 := laidMet.tail (laidMet.tail h)
  refine ⟨?_, laidMet.tail h2⟩
  exact Lib.tabIs_of_head (zs := Lib.pow10Tab) (k := .u64) (g := 19) (t := 282) (e := 150) (n := 20) (by kernel_rfl) (by kernel_rfl) (by kernel_rfl) (by kernel_rfl) (by kernel_rfl) (by kernel_rfl) h2
theorem blaid11 {W : World} (h : laidMet Tryz.prog Rows.segBytesRow.laid W) (hsz : gmax ≤ W.heap.size) : Lib.TabIs Tryz.prog W "internal/strconv.uint64pow10" .u64 Lib.pow10Tab ∧ Errs b11 W (errAt W) W.heap.size := by
  obtain ⟨h1, h2⟩ := tab_of3 h
  exact ⟨h1, errs_of_laid b11 (by decide) h2 hsz⟩

end Go.Proofs.YtncjffkpkmjgkaaGreatDoor.Sg

/-! Ob -/
namespace Go.Proofs.YtncjffkpkmjgkaaGreatDoor.Sg
open Go.ChangeShapes Go.WideShapes Go.RowKit Go.Deep Go.Joins Er

section
variable {H : Type} {enc : TypeId × Value → H} {W : World}

theorem add_none {w : World} {a : Addr} {u : Value} (h : w.cell? a = some u) : ∃ b off, a = ⟨b, off, none⟩ ∧ b < w.heap.size := by
  have hs := World.cell?_spot h
  obtain ⟨b, off, spot⟩ := a
  simp only at hs
  subst hs
  exact ⟨b, off, rfl, World.block_lt_of_cell? _ _ h⟩

theorem open_u8s {n : Nat} {kv : Value} {y : DataW H × List MemPlace} (h : DataW.trod enc Tryz.prog W 0 (fun _ => true) true n 22 [kv] = some y) : ∃ xs : List Nat, SlB W kv xs ∧ ∀ b ∈ xs, b < 256 := by
  rcases open_ints Tryz.underlying22 Tryz.underlying5 (by kernel_rfl) h with ⟨hcs, _⟩ | ⟨a, l, c, zs, hcs, _, hl, hm, hz, _, hcell, hwz⟩
  · simp at hcs; subst hcs; exact ⟨[], SlB.nil _, by simp⟩
  · simp at hcs
    subst hcs
    simp only [if_true] at hz
    by_cases h0 : l = 0
    · subst h0; exact ⟨[], Or.inr (Or.inr ⟨a, c, rfl, rfl⟩), by simp⟩
    · obtain ⟨b, off, rfl, hb⟩ := add_none (by have := hcell 0 (by omega); simpa [Addr.add] using this)
      have hl2 : ((zs.take l).map Int.toNat).length = l := by simp; omega
      refine ⟨(zs.take l).map Int.toNat, Or.inr (Or.inl ⟨b, off, c, by rw [hl2], by rw [hl2]; exact hl, hb, fun i x hx => ?_⟩), fun x hx => ?_⟩
      · rw [List.getElem?_map, Option.map_eq_some_iff] at hx
        obtain ⟨z, hz1, rfl⟩ := hx
        rw [List.getElem?_take] at hz1
        split at hz1
        · have hi : i < zs.length := (List.getElem?_eq_some_iff.1 hz1).1
          have h1 := hcell i hi
          rw [List.getD_eq_getElem?_getD, hz1, addr_add'] at h1
          rw [h1]
          have h2 := (Lit.wf_int_iff _ _).1 (hwz z (List.mem_of_getElem? hz1))
          simp only [Option.getD_some, IntKind.min, IntKind.max, IntKind.signed, IntKind.bits] at h2 ⊢
          simp at h2
          congr 2
          omega
        · cases hz1
      · obtain ⟨z, hz1, rfl⟩ := List.mem_map.1 hx
        have h2 := (Lit.wf_int_iff _ _).1 (hwz z (List.mem_of_mem_take hz1))
        simp only [IntKind.min, IntKind.max, IntKind.signed, IntKind.bits] at h2
        simp at h2
        omega

theorem list_of {α : Type} {p : Nat → α → Prop} : ∀ n, (∀ i, i < n → ∃ x, p i x) → ∃ l : List α, l.length = n ∧ ∀ i x, l[i]? = some x → p i x
  | 0, _ => ⟨[], rfl, fun i x h => by simp at h⟩
  | n + 1, h => by
    obtain ⟨l, h1, h2⟩ := list_of n (fun i hi => h i (by omega))
    obtain ⟨x, hx⟩ := h n (by omega)
    refine ⟨l ++ [x], by simp [h1], fun i y hy => ?_⟩
    rw [List.getElem?_append] at hy
    split at hy
    · exact h2 i y hy
    · have : i = n := by
        have := (List.getElem?_eq_some_iff.1 hy).1
        simp at this; omega
      subst this
      simp [h1] at hy
      subst hy; exact hx

set_option maxRecDepth 100000 in
theorem open_recs {n : Nat} {rv : Value} {y : DataW H × List MemPlace} (h : DataW.trod enc Tryz.prog W 0 (fun _ => true) true n 36 [rv] = some y) :
    ∃ L : List Rc, RcsV W rv L ∧ ∀ r ∈ L, (∀ b ∈ r.k, b < 256) ∧ (∀ b ∈ r.v, b < 256) := by
  have hc3 : Tryz.prog.cellsOf 116 = 3 := by kernel_rfl
  have hc1 : Tryz.prog.cellsOf 2 = 1 := by kernel_rfl
  have hc2 : Tryz.prog.cellsOf 22 = 1 := by kernel_rfl
  rcases open_slice Tryz.underlying36 h with ⟨hcs, _⟩ | ⟨a, l, c, m, q, D, Pl, hcs, _, hl, hm, hmm, _, hel⟩
  · simp at hcs; subst hcs; exact ⟨[], Or.inl ⟨rfl, rfl⟩, by simp⟩
  · simp at hcs
    subst hcs
    simp only [if_true] at hmm
    subst hmm
    by_cases h0 : l = 0
    · subst h0; exact ⟨[], Or.inr (Or.inr ⟨a, m, rfl, rfl⟩), by simp⟩
    · have one : ∀ i, i < l → ∃ (r : Rc), (W.cell? (a.add (i * 3)) = some (.int .i64 r.t) ∧ ∃ kv vv, W.cell? ((a.add (i * 3)).add 1) = some kv ∧ SlB W kv r.k ∧ W.cell? ((a.add (i * 3)).add 2) = some vv ∧ SlB W vv r.v) ∧ (∀ b ∈ r.k, b < 256) ∧ (∀ b ∈ r.v, b < 256) := by
        intro i hi
        obtain ⟨cs', h1, h2⟩ := hel i (by omega)
        rw [hc3] at h1
        obtain ⟨_, hlen, hat⟩ := World.cells?_some h1
        obtain ⟨c0, c1, c2, rfl⟩ : ∃ c0 c1 c2, cs' = [c0, c1, c2] := by
          match cs', hlen with
          | [c0, c1, c2], _ => exact ⟨c0, c1, c2, rfl⟩
        obtain ⟨y0, y1, y2, n', -, -, e0, e1, e2⟩ := trod_struct3 Tryz.underlying116 h2
        dsimp only at e0 e1 e2
        rw [hc1] at e0
        rw [hc2] at e1 e2
        obtain ⟨t, ht, -, -⟩ := DataW.trod_int Tryz.underlying2 e0
        obtain ⟨k, hk, hkb⟩ := open_u8s (kv := c1) e1
        obtain ⟨v, hv, hvb⟩ := open_u8s (kv := c2) e2
        have a0 := hat 0 (by omega)
        have a1 := hat 1 (by omega)
        have a2 := hat 2 (by omega)
        simp at ht a0 a1 a2
        subst ht
        exact ⟨⟨t, k, v⟩, ⟨by simpa [Addr.add] using a0, c1, c2, a1, hk, a2, hv⟩, hkb, hvb⟩
      obtain ⟨L, hL, hp⟩ := list_of l one
      obtain ⟨b, off, rfl, hb⟩ : ∃ b off, a = ⟨b, off, none⟩ ∧ b < W.heap.size := by
        obtain ⟨r, ⟨h1, -⟩, -⟩ := one 0 (by omega)
        exact add_none (by simpa [Addr.add] using h1)
      subst hL
      refine ⟨L, Or.inr (Or.inl ⟨b, off, m, rfl, hl, hb, fun k x hx => ?_⟩), fun r hr => ?_⟩
      · obtain ⟨⟨h1, kv, vv, h2, h3, h4, h5⟩, -⟩ := hp k x hx
        rw [addr_add'] at h1 h2 h4
        rw [addr_add'] at h2 h4
        exact ⟨h1, kv, vv, h2, h3, h4, h5⟩
      · obtain ⟨i, hi⟩ := List.getElem?_of_mem hr
        exact (hp i r hi).2

set_option maxRecDepth 100000 in
/-- An argument of type api.Batch. -/
theorem open_batch {base : Nat} {v : Value} {d : DataW H} {ps : List MemPlace} (hval : Value.okWide Tryz.prog W .any base 38 v) (h : DataW.Trod enc Tryz.prog W 0 (fun _ => true) true 38 v d ps) :
    ∃ x : Bt, BtV W v x ∧ BtBy x := by
  obtain ⟨v0, v1, v2, y0, y1, y2, n, rfl, -, -, e0, e1, e2⟩ := open_agg3 Tryz.underlying38 (by kernel_rfl) (by kernel_rfl) hval h
  dsimp only at e0 e1 e2
  obtain ⟨b, hb, -, -⟩ := DataW.trod_int Tryz.underlying2 e0
  obtain ⟨e, he, -, -⟩ := DataW.trod_int Tryz.underlying3 e1
  obtain ⟨L, hL, hLb⟩ := open_recs e2
  simp at hb he
  subst hb he
  exact ⟨⟨b, e, L⟩, ⟨v2, rfl, hL⟩, hLb⟩
end

end Go.Proofs.YtncjffkpkmjgkaaGreatDoor.Sg

/-! SegBytesRow -/
namespace Go.Proofs.YtncjffkpkmjgkaaGreatDoor.segBytes
open Go.ChangeShapes Go.WideShapes Go.ChangeAt Go.RowKit
open Go.Proofs.YtncjffkpkmjgkaaGreatDoor.Sg
set_option linter.unusedVariables false

theorem own : ownKnob Tryz.prog.godebug = none := by kernel_rfl
theorem laidOut : laidOutB Tryz.prog = true := by kernel_rfl

theorem door_met (os : Os) (args : Array Value) : laidMetH Tryz.prog Rows.segBytesRow.laid ((World.doorLaid Tryz.prog 400 os).forCall (fun _ _ => 0) ⟨#[], args, []⟩).memory :=
  laidMetH_of_parts3 (fuel := 8) (laidMet_of_run' 8 (by kernel_rfl) (by kernel_rfl)) (by kernel_rfl) (by kernel_rfl)

theorem reads (os : Os) {H : Type} (enc : TypeId × Value → H) : ∃ places, DataW.whole enc Tryz.prog ((World.doorLaid Tryz.prog 400 os).forCall (fun _ _ => 0) ⟨#[], #[.slice none 0 0, .int .i64 0], []⟩).memory Tryz.f3.params.toList Rows.segBytesSpec.vars false (#[.slice none 0 0, .int .i64 0] : Array Value).toList 8 = some ([.nil, .lit (.int .i64 0)], [], places) :=
  ⟨[], by kernel_rfl⟩

set_option maxRecDepth 100000 in
theorem contract (H : Type) (enc : TypeId × Value → H) (W : World) (base : Nat) (args : Array Value) (ds gs : List (DataW H)) (before : List MemPlace)
    (hval0 : ∀ (j : Nat) t v, Tryz.f3.params[j]? = some t → args[j]? = some v → Value.okWide Tryz.prog W .any base t v)
    (hW : DataW.Whole enc Tryz.prog Tryz.f3.params.toList Rows.segBytesSpec.vars false W args.toList ds gs before) (hL : laidMetH Tryz.prog Rows.segBytesRow.laid W) (hsh : W.ShapedOpen Tryz.prog) :
    Calls Tryz.prog 3 args W fun e W' => ∃ v, e = .returned v ∧ Rows.segBytesSpec.post enc Tryz.prog Tryz.f3 false true false false W args v W' := by
  have hval : ∀ (j : Nat) t v, Tryz.f3.params[j]? = some t → args[j]? = some v → Value.okWide Tryz.prog W .any base t v := hval0
  have hW' := hW
  obtain ⟨p, q, hA0, hV, rfl, hfz, hnd⟩ := hW
  have hA : DataW.TrodAll enc Tryz.prog W 0 (fun _ => true) true Tryz.f3.params.toList args.toList ds p := hA0
  rw [Tryz.params3] at hA hval
  obtain ⟨v0, vs0, d0, ds0, p0, q0, hargs, rfl, rfl, h0, r0⟩ := trodAll_cons hA
  obtain ⟨v1, vs1, d1, ds1, p1, q1, rfl, rfl, rfl, h1, r1⟩ := trodAll_cons r0
  obtain ⟨rfl, rfl, rfl⟩ := trodAll_nil r1
  obtain rfl : args = #[v0, v1] := by cases args; simp_all
  obtain ⟨rfl, rfl⟩ := trodVars_none hV
  obtain ⟨a0, len0, cap0, rfl⟩ := okWide_slice Tryz.underlying22 (hval 0 22 v0 rfl rfl)
  have k0 := h0
  have lt0 : ∀ x ∈ p0, x.block < W.heap.size := by obtain ⟨m, hm⟩ := k0; exact DataW.trod_lt m _ _ _ hm
  obtain ⟨x0, w0, wb0⟩ : ∃ xs : List Nat, SlB W (.slice a0 len0 cap0) xs ∧ ∀ b ∈ xs, b < 256 := by
    obtain ⟨fuel, hf⟩ := h0
    exact open_u8s hf
  obtain ⟨a1, rfl, rfl, rfl, w1⟩ := open_int Tryz.underlying2 (hval 1 2 v1 rfl rfl) h1
  have hL0 := hL
  rw [MakeChecks.laidMetH_plain _ _ _ (by kernel_rfl)] at hL0
  obtain ⟨hT, hE⟩ := blaid11 (W := W) hL0 (Er.gmax_le hsh)
  clear hA0 hval0
  refine (sbytes_all (.slice a0 len0 cap0) x0 a1 W w0 wb0 b11_all hE hT).mono fun e W' ⟨he, bel⟩ => ?_
  subst he
  exact ⟨_, rfl, _, _, _, [], _, [], hW', trodAll_mk1 (shut_bool Tryz.underlying4 _), (trodAll_cons_mk (Below.trod laidOut (by kernel_rfl) (of_decide_eq_true (by kernel_rfl)) k0 bel lt0) (trodAll_cons_mk (shut_int Tryz.underlying2 w1) trodAll_mk0)), rfl, bel.frame _, fun h => by cases h⟩

set_option maxRecDepth 100000 in
theorem lifted (os : Os) (started : os.Started) (H : Type) (enc : TypeId × Value → H) (F : Stop.Interp) :
    ReturnsInHanded {} Tryz.checked os 3 .any ((OpenSpec.ofChange Rows.segBytesSpec).preRow enc Tryz.prog Tryz.f3 Rows.segBytesRow.domain false Rows.segBytesRow.laid) (((OpenSpec.ofChange Rows.segBytesSpec).at F).post enc Tryz.prog Tryz.f3 false true false false) := by
  obtain ⟨places, hx⟩ := reads os enc
  refine returnsInHanded_of_row (C := Tryz.checked) (s := OpenSpec.ofChange Rows.segBytesSpec) own started (by kernel_rfl) Tryz.func3
    (witness_row_atRef (enc := enc) (C := Tryz.checked) false (World.doorLaid Tryz.prog 400 os) #[.slice none 0 0, .int .i64 0] rfl (by kernel_rfl) (by kernel_rfl) (by kernel_rfl)
      (OpenSpec.preRow_of_cond 8 hx (by kernel_rfl) (fun k hk => by cases hk) (by kernel_rfl) (door_met os _))) ?_
  intro W base args ds gs before hval hW _ _ _ hL hsh _
  exact contract H enc W base args ds gs before hval hW hL hsh

theorem said : Rows.SegBytesSaid :=
  OpenClaim.holds_of_cond 3 Tryz.f3 rfl rfl rfl rfl rfl rfl rfl ⟨rfl, rfl, rfl, rfl, rfl⟩ rfl rfl rfl rfl rfl (by kernel_rfl) Tryz.func3 (by kernel_rfl)
    (of_decide_eq_true (by kernel_rfl)) (by unfold Func.isWrapper; rw [if_neg (of_decide_eq_false (by kernel_rfl))]; exact ⟨rfl, rfl⟩)
    (fun os started H enc _ F => by rw [OpenClaim.pre_eq_preRow]; exact lifted os started H enc F)

theorem plain (f : FuncId) (fn : Func) (hf : Tryz.pinned.checked.prog.funcNamed "cordwood/cordwoodlaw7.SegBytes" = some f) (hfn : Tryz.pinned.checked.prog.funcs[f]? = some fn) :
    true = Tryz.pinned.checked.prog.looks [] ∧ ∀ (j : Nat) t, fn.params[j]? = some t → Tryz.pinned.checked.prog.wantsStandIn t = false := by
  obtain rfl : f = 3 := Option.some.inj ((show Tryz.prog.funcNamed "cordwood/cordwoodlaw7.SegBytes" = some 3 by kernel_rfl).symm.trans hf) |>.symm
  obtain rfl : fn = Tryz.f3 := (Option.some.inj (Tryz.func3.symm.trans hfn)).symm
  refine ⟨by kernel_rfl, fun j t ht => ?_⟩
  rw [Tryz.params3] at ht
  have hm := Array.mem_of_getElem? ht
  have ht2 : t = 22 ∨ t = 2 := by simpa using hm
  rcases ht2 with rfl | rfl
  · exact (show Tryz.prog.wantsStandIn 22 = false by kernel_rfl)
  · exact (show Tryz.prog.wantsStandIn 2 = false by kernel_rfl)

/-- THE CARD -/
theorem card : Rows.SegBytesCardSaid :=
  Claim7.holds_tied_plain_at .later [] _ _ _ _ said (fun _ h => by cases h) (by kernel_rfl) (fun _ h => by cases h) segBytes_row_tie rfl ⟨rfl, rfl⟩ (by kernel_rfl) rfl plain (by kernel_rfl)
#print axioms card
end Go.Proofs.YtncjffkpkmjgkaaGreatDoor.segBytes
