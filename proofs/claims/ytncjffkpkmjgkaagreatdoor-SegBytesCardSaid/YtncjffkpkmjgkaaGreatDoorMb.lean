/- Slices of records that a call owns. rec.read of a body. slices.Equal of the same bytes. rec.Read of a batch's bytes, with whatever bytes behind. Records that are read, apart from blocks that others may turn. slices.Clone of records. seg.From. name.right, name.small. Memory in two parts: what stays for good (P), and blocks that are owned (M). Maps: what a map's block holds, as a list of keys and values. Rows that are owned, in parts of memory. append of one element to a row of one's own, in parts of memory. name.Valid. -/
import Derived.Test.YtncjffkpkmjgkaaGreatDoorMa
import Derived.Deep.AppendLies
import Derived.Deep.RegionLaw
import Derived.Maps.OwnSet
import Derived.Maps.OwnOps
import Derived.Maps.RangeWalk
import Derived.Maps.Ext
import Derived.StillTailTactics

/-! SRo -/
namespace Go.Proofs.YtncjffkpkmjgkaaGreatDoor.Sg
open Go.RowKit Er

/-- Nothing is there, or it lies apart from N, and from a row's own block. -/
def ApartO (v : Value) (xs : List Nat) (N : List Nat) (u : Value) : Prop := xs = [] ∨ ∀ b, v.ownBlock = some b → b ∉ N ∧ u.ownBlock ≠ some b
/-- A row of records of one's own; none of the blocks that it leads to is among N, nor is the row's own block one that a record leads to. -/
def RcOC (w : World) (base : Nat) (u : Value) (L : List Rc) (N : List Nat) (cs : List Value) : Prop :=
  w.ownsRow base 116 3 u L.length cs ∧ (∀ b, u.ownBlock = some b → b ∉ N) ∧
    ∀ (k : Nat) x, L[k]? = some x → cs[k * 3]? = some (.int .i64 x.t) ∧ ∃ kv vv, cs[k * 3 + 1]? = some kv ∧ SlB w kv x.k ∧ cs[k * 3 + 2]? = some vv ∧ SlB w vv x.v ∧
      ApartO kv x.k N u ∧ ApartO vv x.v N u

def RcO (w : World) (base : Nat) (u : Value) (L : List Rc) (N : List Nat) : Prop := ∃ cs, RcOC w base u L N cs

theorem RcO.nil (w : World) (base : Nat) (N : List Nat) : RcO w base (.slice none 0 0) [] N :=
  ⟨[], World.ownsRow_nil _ _ _ _, fun b hb => by simp [Value.ownBlock] at hb, fun k x hx => by simp at hx⟩

theorem owns_upd {M : List Nat} {w w' : World} {base : Nat} {e : TypeId} {size : Nat} {v : Value} {n : Nat} {xs : List Value} (h : w.ownsRow base e size v n xs) (hu : Upd M w w') (hM : ∀ b, v.ownBlock = some b → b ∉ M) : w'.ownsRow base e size v n xs := by
  refine ⟨h.1, ?_⟩
  rcases h.2 with hn | ⟨g, cap, cur, rfl, hbg, hgg, rest⟩
  · exact .inl hn
  · exact .inr ⟨g, cap, cur, rfl, hbg, by rw [hu.block g (Array.getElem?_eq_some_iff.1 hgg).1 (hM g rfl)]; exact hgg, rest⟩

theorem SlB.own_lt {w : World} {v : Value} {xs : List Nat} (hs : SlB w v xs) (hne : xs ≠ []) {b : Nat} (hb : v.ownBlock = some b) : b < w.heap.size := by
  rcases hs with ⟨rfl, _⟩ | ⟨g, off, cap, rfl, _, hg, _⟩ | ⟨_, _, _, h0⟩
  · simp [Value.ownBlock] at hb
  · cases hb; exact hg
  · exact absurd h0 hne

theorem RcOC.upd {M : List Nat} {w w' : World} {base : Nat} {u : Value} {L : List Rc} {N : List Nat} {cs : List Value} (h : RcOC w base u L N cs) (hu : Upd M w w') (hM : ∀ k, k ∈ M → k ∈ N ∨ w.heap.size ≤ k) : RcOC w' base u L N cs := by
  obtain ⟨h1, h2, h3⟩ := h
  have no : ∀ {v : Value} {xs : List Nat}, SlB w v xs → ApartO v xs N u → SlB w' v xs := by
    intro v xs hs hn
    rcases List.eq_nil_or_concat xs with rfl | ⟨ys, y, hxs⟩
    · exact hs.empty
    have hne : xs ≠ [] := by rw [hxs]; simp
    refine hs.upd hu (fun k hk e => ?_)
    rcases hM k hk with h | h
    · exact hn.elim hne (fun hn => (hn k e).1 h)
    · have := hs.own_lt hne e; omega
  refine ⟨owns_upd h1 hu (fun b hb hm => ?_), h2, fun k x hx => ?_⟩
  · rcases hM b hm with h | h
    · exact h2 b hb h
    · exact owns_lt h1 h hb
  · obtain ⟨a, kv, vv, b, c, d, e, f, g⟩ := h3 k x hx
    exact ⟨a, kv, vv, b, no c f, d, no e g, f, g⟩

theorem RcO.upd {M : List Nat} {w w' : World} {base : Nat} {u : Value} {L : List Rc} {N : List Nat} (h : RcO w base u L N) (hu : Upd M w w') (hM : ∀ k, k ∈ M → k ∈ N ∨ w.heap.size ≤ k) : RcO w' base u L N := by
  obtain ⟨cs, h⟩ := h
  exact ⟨cs, h.upd hu hM⟩

/-- One record more. -/
theorem RcOC.push {w w' : World} {base : Nat} {u u' : Value} {L : List Rc} {N : List Nat} {cs : List Value} (h : RcOC w base u L N cs) (x : Rc) (kv vv : Value)
    (hown : w'.ownsRow base 116 3 u' (L.length + 1) (cs ++ [.int .i64 x.t, kv, vv])) (hg : w.grownBy w' u.ownBlock) (hat : u'.ownBlock = u.ownBlock ∨ ∃ H, u'.ownBlock = some H ∧ w.heap.size ≤ H)
    (hN : ∀ k, k ∈ N → k < w.heap.size)
    (hk : SlB w kv x.k) (hv : SlB w vv x.v) (hkn : ApartO kv x.k N u) (hvn : ApartO vv x.v N u) :
    RcO w' base u' (L ++ [x]) N := by
  obtain ⟨h1, h2, h3⟩ := h
  have hlen : cs.length = L.length * 3 := by have := h1.1; omega
  have tr : ∀ {v : Value} {xs : List Nat}, SlB w v xs → ApartO v xs N u → SlB w' v xs := by
    intro v xs hs hn
    rcases List.eq_nil_or_concat xs with rfl | ⟨ys, y, hxs⟩
    · exact hs.empty
    have hne : xs ≠ [] := by rw [hxs]; simp
    exact hs.grown hg (fun k hk e => hn.elim hne (fun hn => (hn k e).2 hk))
  have no : ∀ {v : Value} {xs : List Nat}, SlB w v xs → ApartO v xs N u → ApartO v xs N u' := by
    intro v xs hs hn
    rcases List.eq_nil_or_concat xs with rfl | ⟨ys, y, hxs⟩
    · exact .inl rfl
    have hne : xs ≠ [] := by rw [hxs]; simp
    refine .inr (fun b hb => ?_)
    replace hn := hn.resolve_left hne
    refine ⟨(hn b hb).1, ?_⟩
    rcases hat with e | ⟨H, e, hH⟩
    · rw [e]; exact (hn b hb).2
    · rw [e]
      intro e'
      have := hs.own_lt hne hb
      have := Option.some.inj e'
      omega
  refine ⟨cs ++ [.int .i64 x.t, kv, vv], by rw [List.length_append]; exact hown, fun b hb => ?_, fun k y hy => ?_⟩
  · rcases hat with e | ⟨H, e, hH⟩
    · rw [e] at hb; exact h2 b hb
    · rw [e] at hb
      intro hm
      have := hN b hm
      have := Option.some.inj hb
      omega
  · rcases Nat.lt_or_ge k L.length with hk' | hk'
    · rw [List.getElem?_append_left hk'] at hy
      obtain ⟨a, kv', vv', b, c, d, e, f, g⟩ := h3 k y hy
      refine ⟨by rw [List.getElem?_append_left (by omega)]; exact a, kv', vv', by rw [List.getElem?_append_left (by omega)]; exact b, tr c f, by rw [List.getElem?_append_left (by omega)]; exact d, tr e g, no c f, no e g⟩
    · have hkl : k = L.length := by
        have := (List.getElem?_eq_some_iff.1 hy).1
        simp at this; omega
      subst hkl
      rw [List.getElem?_append_right (Nat.le_refl _), Nat.sub_self] at hy
      simp at hy
      subst hy
      refine ⟨?_, kv, vv, ?_, tr hk hkn, ?_, tr hv hvn, no hk hkn, no hv hvn⟩
      · rw [List.getElem?_append_right (by omega), show L.length * 3 - cs.length = 0 from by omega]; rfl
      · rw [List.getElem?_append_right (by omega), show L.length * 3 + 1 - cs.length = 1 from by omega]; rfl
      · rw [List.getElem?_append_right (by omega), show L.length * 3 + 2 - cs.length = 2 from by omega]; rfl

/-- What a call owns can be read. -/
theorem RcO.read {w : World} {base : Nat} {u : Value} {L : List Rc} {N : List Nat} (h : RcO w base u L N) : RcsV w u L := by
  obtain ⟨cs, h1, -, h3⟩ := h
  rcases h1.2 with ⟨rfl, h0⟩ | ⟨g, cap, cur, rfl, hb, hg, hc1, hc2, hc3, hc4⟩
  · exact Or.inl ⟨rfl, List.eq_nil_of_length_eq_zero h0⟩
  · refine Or.inr (Or.inl ⟨g, 0, cap, rfl, hc1, (Array.getElem?_eq_some_iff.1 hg).1, fun k x hx => ?_⟩)
    obtain ⟨a, kv, vv, b, c, d, e, -, -⟩ := h3 k x hx
    have ca := h1.cells (g := g) rfl (k * 3) _ a
    have cb := h1.cells (g := g) rfl (k * 3 + 1) _ b
    have cd := h1.cells (g := g) rfl (k * 3 + 2) _ d
    rw [addr_add] at ca cb cd
    rw [Nat.zero_add]
    exact ⟨ca, kv, vv, cb, c, cd, e⟩

end Go.Proofs.YtncjffkpkmjgkaaGreatDoor.Sg

/-! SRx -/
namespace Go.Proofs.YtncjffkpkmjgkaaGreatDoor.Sg
open Go.RowKit Er

theorem fixed_at (n : Nat) (ys : List Nat) (hn : ys.length = n) (hy8 : n ≤ 8) (hy0 : 0 < n) (hyb : ∀ y ∈ ys, y < 256) (N : Nat) (hN : leV ys = N) (r p : Nat) (v : Value) (xs rest : List Nat) (w : World) (h : RdV w r v xs p) (hx : xs.drop p = ys ++ rest) :
    Calls Tryz.prog 144 #[.pointer (some ⟨r, 0, none⟩), .int .i64 n] w fun e w' => e = .returned (.int .u64 N) ∧ RdV w' r v xs (p + n) ∧ Upd [r] w w' := by
  subst hn hN
  exact fixed_ok ys hy8 hy0 hyb r p v xs rest w h hx

theorem RcO.sub {w : World} {base : Nat} {u : Value} {L : List Rc} {N N' : List Nat} (h : RcO w base u L N) (hs : ∀ k, k ∈ N' → k ∈ N) : RcO w base u L N' := by
  obtain ⟨cs, h1, h2, h3⟩ := h
  refine ⟨cs, h1, fun b hb hm => h2 b hb (hs b hm), fun k x hx => ?_⟩
  obtain ⟨a, kv, vv, b, c, d, e, f, g⟩ := h3 k x hx
  exact ⟨a, kv, vv, b, c, d, e, f.imp id (fun f b hb => ⟨fun hm => (f b hb).1 (hs b hm), (f b hb).2⟩), g.imp id (fun g b hb => ⟨fun hm => (g b hb).1 (hs b hm), (g b hb).2⟩)⟩

/-- A batch's three cells. -/
def btF (b e : Int) (u : Value) (i : Nat) : Value := if i = 0 then .int .i64 b else if i = 1 then .int .i64 e else u

theorem infoRc : (Tryz.prog.info? 116).map (fun i => (i.zero, i.size, i.bytes)) = some (some (.agg #[.int .i64 0, .slice none 0 0, .slice none 0 0]), 3, 56) := by kernel_rfl

theorem bodyR_append (l : Int) (a b : List Rc) : bodyR l (a ++ b) = bodyR l a ++ bodyR (tEnd l a) b := by
  induction a generalizing l with
  | nil => rfl
  | cons y a ih => simp [bodyR, tEnd, ih, List.append_assoc]

theorem rbytes64 (ys : List Nat) (hn : ys.length ≤ 64) (vz : List Nat) (hvz : Hid (vput ys.length = vz)) (r p : Nat) (v : Value) (xs rest : List Nat) (w : World) (h : RdV w r v xs p) (hx : xs.drop p = vz ++ (ys ++ rest)) :
    Calls Tryz.prog 179 #[.pointer (some ⟨r, 0, none⟩), .int .i64 64] w fun e w' => (∃ a c, e = .returned (.slice a ys.length c) ∧ w'.ownsRow w.heap.size 5 1 (.slice a ys.length c) ys.length (bcells ys)) ∧ RdV w' r v xs (p + vz.length + ys.length) ∧ Upd [r] w w' := by
  refine (rbytes_ok ys 64 hn (by omega) vz hvz r p v xs rest w h hx).mono ?_
  rintro e w' ⟨⟨v', rfl, ho⟩, h1, h2⟩
  obtain ⟨a, c, rfl, -⟩ := (owns_read ho).2.shape
  exact ⟨⟨a, c, rfl, ho⟩, h1, h2⟩
theorem rbytes512 (ys : List Nat) (hn : ys.length ≤ 512) (vz : List Nat) (hvz : Hid (vput ys.length = vz)) (r p : Nat) (v : Value) (xs rest : List Nat) (w : World) (h : RdV w r v xs p) (hx : xs.drop p = vz ++ (ys ++ rest)) :
    Calls Tryz.prog 179 #[.pointer (some ⟨r, 0, none⟩), .int .i64 512] w fun e w' => (∃ a c, e = .returned (.slice a ys.length c) ∧ w'.ownsRow w.heap.size 5 1 (.slice a ys.length c) ys.length (bcells ys)) ∧ RdV w' r v xs (p + vz.length + ys.length) ∧ Upd [r] w w' := by
  refine (rbytes_ok ys 512 hn (by omega) vz hvz r p v xs rest w h hx).mono ?_
  rintro e w' ⟨⟨v', rfl, ho⟩, h1, h2⟩
  obtain ⟨a, c, rfl, -⟩ := (owns_read ho).2.shape
  exact ⟨⟨a, c, rfl, ho⟩, h1, h2⟩

theorem Upd.of_grown {w w' : World} {row : Option Nat} (hg : w.grownBy w' row) : Upd row.toList w w' := ⟨hg.os, hg.tape, hg.output, hg.size, fun k hk hn => hg.block k hk (fun e => hn (by rw [← e]; simp))⟩

theorem left_end (r : Nat) (v : Value) (xs : List Nat) (w : World) (h : RdV w r v xs xs.length) :
    Calls Tryz.prog 174 #[.pointer (some ⟨r, 0, none⟩)] w fun e w' => e = .returned (.int .i64 0) ∧ Below w.heap.size w w' := by
  refine (left_ok r _ v xs w h).mono ?_
  rintro e w' ⟨rfl, hb⟩
  exact ⟨by rw [Nat.sub_self]; rfl, hb⟩

theorem owns_shape {w : World} {base : Nat} {e : TypeId} {size : Nat} {v : Value} {n : Nat} {xs : List Value} (h : w.ownsRow base e size v n xs) : ∃ a c, v = .slice a n c := by
  rcases h.2 with ⟨rfl, rfl⟩ | ⟨g, cap, cur, rfl, _⟩
  · exact ⟨none, 0, rfl⟩
  · exact ⟨_, cap, rfl⟩

theorem drop_len {α : Type} (A B : List α) (n : Nat) (h : A.length = n) : (A ++ B).drop n = B := by subst h; exact List.drop_left

set_option maxRecDepth 100000 in
set_option maxHeartbeats 2000000 in
theorem read_ok (x : Bt) (hok : BtOk x) (N : List Nat) (v : Value) (w : World) (hN : ∀ k, k ∈ N → k < w.heap.size) (h : SlB w v (bodyB x)) :
    Calls Tryz.prog 146 #[v] w fun e w' => (∃ rs, e = .returned (.tuple #[.agg #[.int .i64 x.b, .int .i64 x.e, rs], .bool true]) ∧ RcO w' w.heap.size rs x.r N) ∧ Below w.heap.size w w' := by
  obtain ⟨bn, hbn⟩ : ∃ n : Nat, x.b = (n : Int) := ⟨x.b.toNat, by have := hok.b0; omega⟩
  obtain ⟨en, hen⟩ : ∃ n : Nat, x.e = (n : Int) := ⟨x.e.toNat, by have := hok.e0; omega⟩
  have hb1 : bn ≤ 1099511627776 := by have := hok.b1; omega
  have he1 : en ≤ 1073741824 := by have := hok.e1; omega
  have hn1 := hok.n1
  have hn64 := hok.n64
  have hbl := bodyB_len x hok
  obtain ⟨ht1, ht2⟩ := t0_in x hok
  obtain ⟨vz, hvz⟩ : ∃ vz, vput (zig (t0 x)) = vz := ⟨_, rfl⟩
  have HVZ := Lib.hid hvz
  obtain ⟨xs, hxs⟩ : ∃ xs, bodyB x = xs := ⟨_, rfl⟩
  have hform : xs = leB bn 8 ++ (leB en 4 ++ (leB x.r.length 2 ++ (vz ++ bodyR (t0 x) x.r))) := by
    rw [← hxs, ← hvz]; unfold bodyB headB; rw [hbn, hen]; simp [List.append_assoc]
  have HX0 : Hid (xs.drop 0 = leB bn 8 ++ (leB en 4 ++ (leB x.r.length 2 ++ (vz ++ bodyR (t0 x) x.r)))) := hform
  have hx8 : xs.drop 8 = leB en 4 ++ (leB x.r.length 2 ++ (vz ++ bodyR (t0 x) x.r)) := by rw [hform]; exact drop_len _ _ _ (leB_len _ _)
  have hx12 : xs.drop 12 = leB x.r.length 2 ++ (vz ++ bodyR (t0 x) x.r) := by rw [show (12 : Nat) = 8 + 4 from rfl, ← List.drop_drop, hx8]; exact drop_len _ _ _ (leB_len _ _)
  have hx14 : xs.drop 14 = vz ++ bodyR (t0 x) x.r := by rw [show (14 : Nat) = 12 + 2 from rfl, ← List.drop_drop, hx12]; exact drop_len _ _ _ (leB_len _ _)
  have HX8 := Lib.hid hx8
  have HX12 := Lib.hid hx12
  have HX14 := Lib.hid hx14
  have l8 : leV (leB bn 8) = bn := by rw [leV_leB]; omega
  have l4 : leV (leB en 4) = en := by rw [leV_leB]; omega
  have l2 : leV (leB x.r.length 2) = x.r.length := by rw [leV_leB]; omega
  have L8 := Lib.hid l8
  have L4 := Lib.hid l4
  have L2 := Lib.hid l2
  rw [hxs] at h hbl
  rw [hbn, hen]
  have HV := Lib.hid (h.below ((Below.refl _ _).alloc (Nat.le_refl _) (.cells #[.int .i64 0, .int .i64 0, .slice none 0 0] 38)) rfl)
  have HOK := Lib.hid hok
  clear h hvz hform hx8 hx12 hx14 l8 l4 l2 hxs hok
  go_enter Tryz.func146, Tryz.ntmps146
  go_wp2_with fail
  refine (newreader_any v xs _ HV.out (by omega)).mono ?_
  rintro e w1 ⟨⟨r, v1, rfl, hr, hrd⟩, hb1'⟩
  simp only [World.alloc_size'] at hr
  have hrow0 : (w.alloc (.cells #[.int .i64 0, .int .i64 0, .slice none 0 0] 38)).rowIs w.heap.size 38 3 (btF 0 0 (.slice none 0 0)) :=
    World.rowIs_alloc w #[.int .i64 0, .int .i64 0, .slice none 0 0] _ _ (fun i hi => by
      have hi' : i < 3 := hi
      rcases (show i = 0 ∨ i = 1 ∨ i = 2 by omega) with rfl | rfl | rfl <;> rfl)
  have hrow1 := hrow0.of_block (hb1'.block _ (by simp))
  have hu1 : Upd [] w w1 := ((Upd.refl [] w).alloc _).trans (Upd.of_below hb1' (Nat.le_refl _))
  clear hrow0 hb1'
  go_wp2_with fail
  refine (fixed_at 8 (leB bn 8) (leB_len _ _) (by omega) (by omega) (leB_lt _ _) bn L8.out r 0 v1 xs _ w1 hrd HX0.out).mono ?_
  rintro e w2 ⟨rfl, hrd2, hup2⟩
  have hu2 := hu1.trans' hup2 (fun k hk => .inr (by simp at hk; omega))
  have hrow2 := hrow1.of_block (hup2.block _ hrow1.lt (by simp; omega))
  clear hrd hup2 hu1 hrow1
  go_wp2_with fail
  refine (fixed_at 4 (leB en 4) (leB_len _ _) (by omega) (by omega) (leB_lt _ _) en L4.out r _ v1 xs _ w2 hrd2 HX8.out).mono ?_
  rintro e w3 ⟨rfl, hrd3, hup3⟩
  have hu3 := hu2.trans' hup3 (fun k hk => .inr (by simp at hk; omega))
  have hrow3 := hrow2.of_block (hup3.block _ hrow2.lt (by simp; omega))
  clear hrd2 hup3 hu2 hrow2
  have hr3 := hrd3.row.lt
  have hrow3b : (w3.alloc (.cells #[.int .i64 bn, .int .i64 en, .slice none 0 0] 38)).rowIs w3.heap.size 38 3 (btF bn en (.slice none 0 0)) :=
    World.rowIs_alloc w3 #[.int .i64 bn, .int .i64 en, .slice none 0 0] _ _ (fun i hi => by
      have hi' : i < 3 := hi
      rcases (show i = 0 ∨ i = 1 ∨ i = 2 by omega) with rfl | rfl | rfl <;> rfl)
  obtain ⟨bb, hbb⟩ : ∃ bb, bb = w3.heap.size := ⟨_, rfl⟩
  rw [← hbb] at hrow3b hr3
  obtain ⟨gv, hgv⟩ : ∃ gv, v1.ownBlock = some gv := by
    obtain ⟨g, off, cap, hv, -, -⟩ := slB_cell hrd3.sl (k := 0) (by have := congrArg List.length HX0.out; simp [leB_len] at this; omega)
    exact ⟨g, by rw [hv]; rfl⟩
  have hgvb := hrd3.sl.own_lt (fun e => by
    have := congrArg List.length HX0.out
    have h0 : (xs.drop 0).length = 0 := by rw [e]; rfl
    rw [h0, List.length_append, leB_len] at this
    omega) hgv
  rw [← hbb] at hgvb
  have hw3 := hrow3.lt
  rw [← hbb] at hw3
  have hrd4 := hrd3.below ((Below.refl _ _).alloc (Nat.le_refl _) (.cells #[.int .i64 bn, .int .i64 en, .slice none 0 0] 38)) (Nat.le_refl _)
  have hrow4 := hrow3.alloc (.cells #[.int .i64 bn, .int .i64 en, .slice none 0 0] 38)
  have hu4 := hu3.alloc (.cells #[.int .i64 bn, .int .i64 en, .slice none 0 0] 38)
  have HBB := Lib.hid hbb
  clear hrd3 hu3 hrow3
  go_wp2_with fail
  refine (fixed_at 2 (leB x.r.length 2) (leB_len _ _) (by omega) (by omega) (leB_lt _ _) x.r.length L2.out r _ v1 xs _ _ hrd4 HX12.out).mono ?_
  rintro e w5 ⟨rfl, hrd5, hup5⟩
  have hu5 := hu4.trans' hup5 (fun k hk => .inr (by simp at hk; omega))
  have hrow5 := hrow4.of_block (hup5.block _ hrow4.lt (by simp; omega))
  have hrow5b := hrow3b.of_block (hup5.block _ hrow3b.lt (by simp; omega))
  clear hrd4 hup5 hu4 hrow4 hrow3b hbb
  go_wp2_with fail
  refine (int_ok (t0 x) _ _ (by omega) (by omega) ht1 ht2 vz HVZ r _ v1 xs _ w5 hrd5 HX14.out).mono ?_
  rintro e w6 ⟨rfl, hrd6, hup6⟩
  have hu6 := hu5.trans' hup6 (fun k hk => .inr (by simp at hk; omega))
  have hrow6 := hrow5.of_block (hup6.block _ hrow5.lt (by simp; omega))
  have hrow6b := hrow5b.of_block (hup6.block _ hrow5b.lt (by simp; omega))
  clear hrd5 hup6 hu5 hrow5 hrow5b
  rw [← HBB.out]
  go_wp2_with fail
  go_loopg [6, 7] x.r.length (fun m q t wr => ∃ (k : Nat) (u : Value), k + m = x.r.length ∧ q = .int .i64 m ∧ t = .int .i64 (tEnd (t0 x) (x.r.take k)) ∧
    RdV wr r v1 xs (14 + vz.length + (bodyR (t0 x) (x.r.take k)).length) ∧ wr.rowIs bb 38 3 (btF bn en u) ∧ wr.rowIs w.heap.size 38 3 (btF 0 0 (.slice none 0 0)) ∧
    RcO wr w.heap.size u (x.r.take k) (gv :: r :: bb :: w.heap.size :: N) ∧ Upd [] w wr)
  case atStart => exact ⟨0, .slice none 0 0, by omega, rfl, rfl, hrd6, hrow6b, hrow6, RcO.nil _ _ _, hu6⟩
  case round =>
    obtain ⟨k, u, hk, rfl, rfl, hrd, hrb, hr0, hro, hu⟩ := hrel
    by_cases hlt : k < x.r.length
    · obtain ⟨gj, rfl⟩ : ∃ x, gk = x + 1 := ⟨gk - 1, by omega⟩
      have j1 : (0 : Int) < ((gj + 1 : Nat) : Int) := by omega
      obtain ⟨q1, q2, q3, q4⟩ := HOK.out.rs _ (List.getElem_mem hlt)
      obtain ⟨q5, q6⟩ := tEnd_in (t0 x) (x.r.take k) ⟨ht1, ht2⟩ (fun y hy => HOK.out.rs y (List.mem_of_mem_take hy))
      have hsplit : x.r = x.r.take k ++ x.r[k] :: x.r.drop (k + 1) := by rw [← List.drop_eq_getElem_cons hlt, List.take_append_drop]
      have hdrop : xs.drop (14 + vz.length + (bodyR (t0 x) (x.r.take k)).length) = rcB (tEnd (t0 x) (x.r.take k)) x.r[k] ++ bodyR x.r[k].t (x.r.drop (k + 1)) := by
        rw [Nat.add_assoc, ← List.drop_drop, HX14.out, ← List.drop_drop, drop_len _ _ _ rfl]
        have : bodyR (t0 x) x.r = bodyR (t0 x) (x.r.take k) ++ (rcB (tEnd (t0 x) (x.r.take k)) x.r[k] ++ bodyR x.r[k].t (x.r.drop (k + 1))) := by
          conv => lhs; rw [hsplit]
          rw [bodyR_append]; rfl
        rw [this]; exact drop_len _ _ _ rfl
      have hnb : bodyR (t0 x) (x.r.take (k + 1)) = bodyR (t0 x) (x.r.take k) ++ rcB (tEnd (t0 x) (x.r.take k)) x.r[k] := by
        rw [List.take_add_one, List.getElem?_eq_getElem hlt, Option.toList_some, bodyR_snoc]
      have hnt : tEnd (t0 x) (x.r.take (k + 1)) = x.r[k].t := by
        rw [List.take_add_one, List.getElem?_eq_getElem hlt, Option.toList_some, tEnd_snoc]
      have htk : x.r.take (k + 1) = x.r.take k ++ [x.r[k]] := by rw [List.take_add_one, List.getElem?_eq_getElem hlt, Option.toList_some]
      generalize tEnd (t0 x) (x.r.take k) = last at *
      obtain ⟨dz, hdz⟩ : ∃ dz, x.r[k].t - last = dz := ⟨_, rfl⟩
      obtain ⟨z1, hz1⟩ : ∃ z, vput (zig dz) = z := ⟨_, rfl⟩
      obtain ⟨z2, hz2⟩ : ∃ z, vput x.r[k].k.length = z := ⟨_, rfl⟩
      obtain ⟨z3, hz3⟩ : ∃ z, vput x.r[k].v.length = z := ⟨_, rfl⟩
      have hrc : rcB last x.r[k] = z1 ++ z2 ++ x.r[k].k ++ z3 ++ x.r[k].v := by rw [← hz1, ← hz2, ← hz3, ← hdz]; rfl
      rw [hrc] at hdrop hnb
      obtain ⟨p, hp⟩ : ∃ p, p = 14 + vz.length + (bodyR (t0 x) (x.r.take k)).length := ⟨_, rfl⟩
      rw [← hp] at hrd hdrop
      have d1 : xs.drop p = z1 ++ (z2 ++ (x.r[k].k ++ (z3 ++ (x.r[k].v ++ bodyR x.r[k].t (x.r.drop (k + 1)))))) := by rw [hdrop]; simp [List.append_assoc]
      have d2 : xs.drop (p + z1.length) = z2 ++ (x.r[k].k ++ (z3 ++ (x.r[k].v ++ bodyR x.r[k].t (x.r.drop (k + 1))))) := by rw [← List.drop_drop, d1]; exact drop_len _ _ _ rfl
      have d3 : xs.drop (p + z1.length + z2.length + x.r[k].k.length) = z3 ++ (x.r[k].v ++ bodyR x.r[k].t (x.r.drop (k + 1))) := by
        rw [← List.drop_drop, ← List.drop_drop, d2, drop_len _ _ _ rfl]; exact drop_len _ _ _ rfl
      have HPN : Hid (p + z1.length + z2.length + x.r[k].k.length + z3.length + x.r[k].v.length = 14 + vz.length + (bodyR (t0 x) (x.r.take (k + 1))).length) := by
        show _ = _
        rw [hnb, hp]; simp; omega
      have hsum : last + dz = x.r[k].t := by omega
      have D1 := Lib.hid d1
      have D2 := Lib.hid d2
      have D3 := Lib.hid d3
      have Z1 := Lib.hid hz1
      have Z2 := Lib.hid hz2
      have Z3 := Lib.hid hz3
      have NT := Lib.hid hnt
      have TK := Lib.hid htk
      clear hsplit hdrop hnb hnt htk hz1 hz2 hz3 hrc d1 d2 d3 hp
      go_wp2_with fail
      refine (err_ok r _ v1 xs wr hrd).mono ?_
      rintro e w' ⟨rfl, rfl⟩
      go_wp2_with fail
      refine (int_ok dz _ _ (by omega) (by omega) (by omega) (by omega) z1 Z1 r p v1 xs _ wr hrd D1.out).mono ?_
      rintro e w7 ⟨rfl, hrd7, hup7⟩
      have hu7 := hu.trans' hup7 (fun k hk => .inr (by simp at hk; omega))
      have hrb7 := hrb.of_block (hup7.block _ hrb.lt (by simp; omega))
      have hr07 := hr0.of_block (hup7.block _ hr0.lt (by simp; omega))
      have hro7 := hro.upd hup7 (fun k hk => .inl (by simp at hk; simp [hk]))
      have HRD7 : ∀ wz, Below w7.heap.size w7 wz → RdV wz r v1 xs (p + z1.length) := fun wz hz => hrd7.below hz (Nat.le_refl _)
      have HRD7 := Lib.hid HRD7
      obtain ⟨cs, hcs⟩ := hro7
      have hc2 := hrb7.cell (i := 2) (by omega)
      rw [show btF bn en u 2 = u from rfl] at hc2
      have hf2 := hrb7.frozen 2
      have hbb7 := hrb7.lt
      have hrr7 := hrd7.row.lt
      obtain ⟨i0, hi0, hz0, hz1', hz2'⟩ := info_parts infoRc
      have HI := Lib.hid hi0
      have hneb : u.ownBlock ≠ some bb := by
        obtain ⟨-, h2, -⟩ := hcs
        exact fun e => h2 bb e (by simp)
      have htl : (x.r.take k).length = k := by simp; omega
      have HTL := Lib.hid htl
      clear hrd7 hi0 htl
      go_upto_region 8 with fail
      go_region_law
        (first
          | (go_simp
             with_reducible refine (rbytes64 x.r[k].k q3 z2 Z2 r _ v1 xs _ _ ?_ D2.out).mono ?_
             · exact HRD7.out _ (Below.refl _ _).drew
             rintro e w8 ⟨⟨ka, kc, rfl, howK⟩, hrdK, hupK⟩
             have hszK := hupK.size
             simp at hszK
             have hbb8 : bb < w8.heap.size := by omega
             have hcK := (hupK.cell (b := bb) (o := 2) (by simpa using hbb7) (by simp; omega)).trans (show _ = some u from hc2))
          | (go_simp
             with_reducible refine (rbytes512 x.r[k].v q4 z3 Z3 r _ v1 xs _ _ ?_ D3.out).mono ?_
             · exact hrdK
             rintro e w9 ⟨⟨va, vc, rfl, howV⟩, hrdV, hupV⟩
             have hszV := hupV.size
             have hbb9 : bb < w9.heap.size := by omega
             have hcV := (hupV.cell (b := bb) (o := 2) (by omega) (by simp; omega)).trans hcK)
          | (have hcs9 := ((hcs.upd ((Upd.refl [] _).drewN 1) (by simp)).upd hupK (fun k hk => .inl (by simp at hk; simp [hk]))).upd hupV (fun k hk => .inl (by simp at hk; simp [hk]))
             refine step_append_lies _ (by rfl) _ _ _ (by rfl) w.heap.size 116 i0 _ 3 56 Tryz.underlying36 HI.out hz0 hz1' hz2' rfl (by omega) u (x.r.take k).length cs (by rfl) (hcs9.1.alloc _)
               ⟨w9.heap.size, 0, none⟩ 1 1 [.int .i64 x.r[k].t, .slice ka x.r[k].k.length kc, .slice va x.r[k].v.length vc] (by rfl) (by rfl)
               (World.news_of_block (cs := #[.int .i64 x.r[k].t, .slice ka x.r[k].k.length kc, .slice va x.r[k].v.length vc]) (t := 116) (fr := (0, 0)) (heap_alloc_new w9 _)) (by simp [Value.oneCell'])
               (by omega) (by rw [HTL.out]; unfold maxLen; omega) (by rw [HTL.out]; omega) (by simp; omega) (w9.heap.size + 1) (by simp) ?_
             intro gg cap1 w10 hown10 hgrow hat hltg
             have hrb10 := ((((hrb7.drew).of_block (hupK.block bb (by simpa using hbb7) (by simp; omega))).of_block (hupV.block bb (by omega) (by simp; omega))).alloc _).of_block (hgrow.block bb (by simp; omega) (fun e => hneb e.symm))
             have hf10 := hrb10.frozen 2
             have hc10 := hrb10.cell (i := 2) (by omega)
             rw [show btF bn en u 2 = u from rfl] at hc10))
      all_goals
        go_wp2_with fail
        go_roundg gj
        case measure => omega
        case rel =>
          have hs7 : w.heap.size < w7.heap.size := hr07.lt
          have hul : ∀ b, u.ownBlock = some b → b < w7.heap.size := fun b hb => (World.ownsRow.lt hcs.1 b hb).2
          have hNl : ∀ b, b ∈ gv :: r :: bb :: w.heap.size :: N → b < w7.heap.size := by
            intro b hb
            simp only [List.mem_cons] at hb
            rcases hb with rfl | rfl | rfl | rfl | hb
            · omega
            · exact hrr7
            · exact hbb7
            · exact hs7
            · have := hN b hb; omega
          have hkK : SlB w9 (.slice ka x.r[k].k.length kc) x.r[k].k := (owns_read howK).2.upd hupV (fun b hb e => by
            have := (World.ownsRow.lt howK b e).1
            simp at hb this; omega)
          have hkV := (owns_read howV).2
          have nK : ∀ b, (Value.slice ka x.r[k].k.length kc).ownBlock = some b → b ∉ gv :: r :: bb :: w.heap.size :: N ∧ u.ownBlock ≠ some b := fun b hb => by
            have := (World.ownsRow.lt howK b hb).1
            simp at this
            exact ⟨fun hm => by have := hNl b hm; omega, fun e => by have := hul b e; omega⟩
          have nV : ∀ b, (Value.slice va x.r[k].v.length vc).ownBlock = some b → b ∉ gv :: r :: bb :: w.heap.size :: N ∧ u.ownBlock ≠ some b := fun b hb => by
            have := (World.ownsRow.lt howV b hb).1
            exact ⟨fun hm => by have := hNl b hm; omega, fun e => by have := hul b e; omega⟩
          have hal := (Upd.refl [] w9).alloc (.cells #[.int .i64 x.r[k].t, .slice ka x.r[k].k.length kc, .slice va x.r[k].v.length vc] 116)
          have hunot : ∀ b, b ∈ gv :: r :: bb :: w.heap.size :: N → u.ownBlock ≠ some b := fun b hb e => hcs.2.1 b e hb
          have hpush := (hcs9.upd hal (by simp)).push (w' := w10) (u' := .slice (some ⟨gg, 0, none⟩) ((x.r.take k).length + 1) cap1) x.r[k] (.slice ka x.r[k].k.length kc) (.slice va x.r[k].v.length vc) hown10 hgrow
            (by rcases hat with e | e; exact .inl (by rw [e]; rfl); exact .inr ⟨gg, rfl, by rw [e]; simp⟩) (fun b hb => by have := hNl b hb; simp; omega) (hkK.upd hal (by simp)) (hkV.upd hal (by simp)) (.inr nK) (.inr nV)
          have hset : Upd [bb] w10 (w10.setCell ⟨bb, 2, none⟩ (.slice (some ⟨gg, 0, none⟩) ((x.r.take k).length + 1) cap1)) := (Upd.refl _ _).setCell _ _ _ (.inl (by simp))
          have hro11 := hpush.upd hset (fun b hb => .inl (by simp at hb; simp [hb]))
          have hrd11 := ((hrdV.upd hal (by simp) (by simp)).upd (Upd.of_grown hgrow) (fun hm => by simp at hm; exact hunot r (by simp) hm) (fun b hb e => by simp at hb; rw [hgv] at e; exact hunot gv (by simp) (by rw [hb, e]))).upd hset (by simp; omega) (fun b hb e => by simp at hb; rw [hgv] at e; have := Option.some.inj e; omega)
          have hr010 := ((((hr07.drew).of_block (hupK.block _ (by simpa using hs7) (by simp; omega))).of_block (hupV.block _ (by omega) (by simp; omega))).alloc _).of_block (hgrow.block w.heap.size (by simp; omega) (fun e => hunot w.heap.size (by simp) e.symm))
          have hr011 := hr010.setOther (a := ⟨bb, 2, none⟩) (by simp; omega) (.slice (some ⟨gg, 0, none⟩) ((x.r.take k).length + 1) cap1)
          have hrb11 := (hrb10.set 2 (.slice (some ⟨gg, 0, none⟩) ((x.r.take k).length + 1) cap1)).congr (g := btF bn en (.slice (some ⟨gg, 0, none⟩) ((x.r.take k).length + 1) cap1)) (fun i hi => by rcases (show i = 0 ∨ i = 1 ∨ i = 2 by omega) with rfl | rfl | rfl <;> simp [btF])
          have hu11 : Upd [] w (w10.setCell ⟨bb, 2, none⟩ (.slice (some ⟨gg, 0, none⟩) ((x.r.take k).length + 1) cap1)) :=
            (((((hu7.drewN 1).trans' hupK (fun b hb => .inr (by simp at hb; omega))).trans' hupV (fun b hb => .inr (by simp at hb; omega))).alloc _).grown hgrow (fun b hb => .inr (World.ownsRow.lt hcs.1 b hb).1)).setCell _ _ _ (.inr (by omega))
          rw [← TK.out] at hro11
          rw [HPN.out] at hrd11
          simp only [List.length_take] at hro11 hrd11 hr011 hrb11 hu11
          exact ⟨k + 1, _, by omega, by go_num, by rw [NT.out], hrd11, hrb11, hr011, hro11, hu11⟩
    · obtain rfl : gk = 0 := by omega
      have hkl : k = x.r.length := by omega
      rw [hkl, List.take_length] at hrd hro
      have hfin : 14 + vz.length + (bodyR (t0 x) x.r).length = xs.length := by
        have := congrArg List.length HX14.out
        simp only [List.length_drop, List.length_append] at this
        have := hrd.le
        omega
      have j0 : ¬ (0 : Int) < ((0 : Nat) : Int) := by omega
      have c0 := hrb.cell (i := 0) (by omega)
      have c1 := hrb.cell (i := 1) (by omega)
      have c2 := hrb.cell (i := 2) (by omega)
      rw [show btF bn en u 0 = .int .i64 bn from rfl] at c0
      rw [show btF bn en u 1 = .int .i64 en from rfl] at c1
      rw [show btF bn en u 2 = u from rfl] at c2
      rw [hfin] at hrd
      obtain ⟨cs, hcs⟩ := hro
      obtain ⟨ua, uc, rfl⟩ := owns_shape hcs.1
      have hrw : ∀ wz, Below wr.heap.size wr wz → RdV wz r v1 xs xs.length := fun wz hz => hrd.below hz (Nat.le_refl _)
      have HRW := Lib.hid hrw
      have hbbr := hrb.lt
      have h0r := hr0.lt
      have hne0 : ¬ bb = w.heap.size := by omega
      have hne1 : ¬ w.heap.size = bb := by omega
      clear hrw hkl hfin
      go_upto_region 9 with fail
      go_region_held3 (fun w' => w'.cell? ⟨bb, 0, none⟩ = some (.int .i64 bn) ∧ w'.cell? ⟨bb, 1, none⟩ = some (.int .i64 en) ∧ w'.cell? ⟨bb, 2, none⟩ = some (.slice ua x.r.length uc))
        (first
          | go_keep
          | (go_split_ands
             exact ⟨(hbL.cell (p := ⟨bb, 0, none⟩) (by simpa using hbbr)).trans (by assumption), (hbL.cell (p := ⟨bb, 1, none⟩) (by simpa using hbbr)).trans (by assumption), (hbL.cell (p := ⟨bb, 2, none⟩) (by simpa using hbbr)).trans (by assumption)⟩))
        (first
          | (with_reducible refine (err_ok r xs.length v1 xs _ ?_).mono ?_
             · exact HRW.out _ (Below.refl _ _).drew
             rintro e w' ⟨rfl, rfl⟩)
          | (with_reducible refine (left_end r v1 xs _ ?_).mono ?_
             · exact HRW.out _ (Below.refl _ _).drew
             rintro e wl ⟨rfl, hbL⟩
             have hr0L := (hr0.drew).of_block (hbL.block _ (by simpa using h0r))
             have e0 := hr0L.cell (i := 0) (by omega)
             have e1 := hr0L.cell (i := 1) (by omega)
             have e2 := hr0L.cell (i := 2) (by omega)
             have f0 := hr0L.frozen 0
             have f1 := hr0L.frozen 1
             have f2 := hr0L.frozen 2))
      go_wp2_with fail
      have huL := ((Upd.refl [] wr).drewN 1).trans (Upd.of_below (M := []) hbL (Nat.le_refl _))
      have hrF := ((hr0L.set 0 (.int .i64 bn)).set 1 (.int .i64 en)).set 2 (.slice ua x.r.length uc)
      have huF : Upd [w.heap.size] wl (((wl.setCell ⟨w.heap.size, 0, none⟩ (.int .i64 bn)).setCell ⟨w.heap.size, 1, none⟩ (.int .i64 en)).setCell ⟨w.heap.size, 2, none⟩ (.slice ua x.r.length uc)) :=
        (((Upd.refl _ _).setCell _ _ _ (.inl (by simp))).setCell _ _ _ (.inl (by simp))).setCell _ _ _ (.inl (by simp))
      generalize hw : ((wl.setCell ⟨w.heap.size, 0, none⟩ (.int .i64 bn)).setCell ⟨w.heap.size, 1, none⟩ (.int .i64 en)).setCell ⟨w.heap.size, 2, none⟩ (.slice ua x.r.length uc) = wf
      rw [hw] at hrF huF
      have g0 : wf.cell? ⟨w.heap.size, 0, none⟩ = some (.int .i64 bn) := hrF.cell (i := 0) (by omega)
      have g1 : wf.cell? ⟨w.heap.size, 1, none⟩ = some (.int .i64 en) := hrF.cell (i := 1) (by omega)
      have g2 : wf.cell? ⟨w.heap.size, 2, none⟩ = some (.slice ua x.r.length uc) := hrF.cell (i := 2) (by omega)
      have hroF : RcO wf w.heap.size (.slice ua x.r.length uc) x.r N :=
        RcO.sub ⟨cs, (hcs.upd huL (by simp)).upd huF (fun b hb => .inl (by simp at hb; simp [hb]))⟩ (fun b hb => by simp [hb])
      have hbF : Below w.heap.size w wf := ((hu.trans huL).trans' huF (fun b hb => .inr (by simp at hb; omega))).to_below (Nat.le_refl _) (by simp)
      exact bodyPost_ret (v := .tuple #[.agg #[.int .i64 bn, .int .i64 en, .slice ua x.r.length uc], .bool true]) (by simp [results, Tryz.results146, go_sem, g0, g1, g2]) rfl ⟨⟨_, rfl, hroF⟩, hbF⟩

end Go.Proofs.YtncjffkpkmjgkaaGreatDoor.Sg

/-! SEq -/
namespace Go.Proofs.YtncjffkpkmjgkaaGreatDoor.Sg
open Go.RowKit Er

set_option maxRecDepth 100000 in
set_option maxHeartbeats 400000 in
theorem equal_same (v1 v2 : Value) (xs : List Nat) (w : World) (h1 : SlB w v1 xs) (h2 : SlB w v2 xs) (hl : xs.length ≤ 1099511627776) :
    Calls Tryz.prog 147 #[v1, v2] w fun e w' => e = .returned (.bool true) ∧ Below w.heap.size w w' := by
  have H1 := Lib.hid h1
  have H2 := Lib.hid h2
  obtain ⟨va, vc, rfl, -⟩ := h1.shape
  obtain ⟨ua, uc, rfl, -⟩ := h2.shape
  clear h1 h2
  go_enter Tryz.func147, Tryz.ntmps147
  go_wp2_with fail
  go_loopg [13] xs.length (fun m j wr => ∃ k : Nat, k + m = xs.length ∧ j = .int .i64 k ∧ Below w.heap.size w wr)
  case atStart => exact ⟨0, by omega, rfl, Below.refl _ _⟩
  case round =>
    obtain ⟨k, hk, rfl, hb⟩ := hrel
    by_cases hlt : k < xs.length
    · obtain ⟨g1, o1, c1, hv1, -, hc1⟩ := slB_cell (H1.out.below hb rfl) hlt
      cases hv1
      obtain ⟨g2, o2, c2, hv2, -, hc2⟩ := slB_cell (H2.out.below hb rfl) hlt
      cases hv2
      have i1 : (0 : Int) ≤ (k : Int) := by omega
      have i2 : (k : Int) < (xs.length : Int) := by omega
      obtain ⟨gj, rfl⟩ : ∃ x, gk = x + 1 := ⟨gk - 1, by omega⟩
      go_wp2_with fail
      go_quiet (fail)
      go_wp2_with fail
      go_roundg gj
      case measure => omega
      case rel => exact ⟨k + 1, by omega, by go_num, below_drewN hb _⟩
    · obtain rfl : k = xs.length := by omega
      go_wp2_with fail
      go_ret
      exact ⟨rfl, hb⟩

end Go.Proofs.YtncjffkpkmjgkaaGreatDoor.Sg

/-! SRr -/
namespace Go.Proofs.YtncjffkpkmjgkaaGreatDoor.Sg
open Go.RowKit Er

theorem RcOC.bound {w : World} {base : Nat} {u : Value} {L : List Rc} {N : List Nat} {cs : List Value} (h : RcOC w base u L N cs) {base' : Nat} (hb : base' ≤ base) : RcOC w base' u L N cs := ⟨owns_bound h.1 hb, h.2⟩

set_option maxRecDepth 100000 in
set_option maxHeartbeats 1000000 in
theorem recread_ok {S : List Nat} {E : Nat → Addr} {B : Nat} (h3 : 3 ∈ S) (h4 : 4 ∈ S) (x : Bt) (hok : BtOk x) (hby : BtBy x) (N : List Nat) (v : Value) (rest : List Nat) (w : World) (hN : ∀ k, k ∈ N → k < w.heap.size) (hE : Errs S w E B)
    (h : SlB w v (batB x ++ rest)) (hl : (batB x ++ rest).length ≤ 1099511627776) :
    Calls Tryz.prog 110 #[v] w fun e w' => (∃ rs, e = .returned (.tuple #[.agg #[.int .i64 x.b, .int .i64 x.e, rs], .int .i64 (batB x).length, .nilIface]) ∧ RcO w' w.heap.size rs x.r N) ∧ Below w.heap.size w w' := by
  have hbl := bodyB_len x hok
  have hbb := batB_len x
  have hblt := bodyB_lt x hby
  obtain ⟨xs, hxs⟩ : ∃ xs, batB x ++ rest = xs := ⟨_, rfl⟩
  obtain ⟨bd, hbd⟩ : ∃ bd, bodyB x = bd := ⟨_, rfl⟩
  have hform : xs = leB bd.length 4 ++ (leB (crcF 0 bd) 4 ++ (bd ++ rest)) := by rw [← hxs, ← hbd]; simp [batB, List.append_assoc]
  have hlen : xs.length = 8 + bd.length + rest.length := by rw [hform]; simp [leB_len]; omega
  have ht8 : (xs.drop 0).take 8 = leB bd.length 4 ++ leB (crcF 0 bd) 4 := by
    rw [hform, List.drop_zero, ← List.append_assoc]
    exact List.take_left' (by simp [leB_len])
  have hd8 : (xs.drop 8).take bd.length = bd := by
    rw [hform, ← List.append_assoc, drop_len _ _ 8 (by simp [leB_len])]
    exact List.take_left
  rw [hxs] at h hl
  rw [hbd] at hbl hblt hbb
  have HBD := Lib.hid hbd
  have HBB : Hid ((batB x).length = 8 + bd.length) := hbb
  obtain ⟨g, off, cap, hv, hg, -⟩ := slB_cell h (k := 0) (by omega)
  subst hv
  obtain ⟨a0, cap0, hcc, hcap⟩ := h.shape
  cases hcc
  have hs8 : SlB w (.slice (some ⟨g, off, none⟩) 8 cap) (leB bd.length 4 ++ leB (crcF 0 bd) 4) := by
    have := h.drop (p := 0) (by omega) (m := 8) (by omega) cap (by omega)
    rwa [ht8, Nat.add_zero] at this
  have h14 : 14 ≤ bd.length := by rw [← HBD.out]; simp [bodyB, headB, leB_len]; omega
  have hsb : SlB w (.slice (some ⟨g, off + 8, none⟩) bd.length (cap - 8)) bd := by
    have := h.drop (p := 8) (by omega) (m := bd.length) (by omega) (cap - 8) (by omega)
    rwa [hd8] at this
  obtain ⟨n, hn⟩ : ∃ n, bd.length = n := ⟨_, rfl⟩
  obtain ⟨c, hc⟩ : ∃ c, crcF 0 bd = c := ⟨_, rfl⟩
  have hclt : c < 4294967296 := by rw [← hc]; exact crcF_lt 0 bd
  rw [hn, hc] at hs8
  rw [hn] at hsb hbl h14 HBB hlen
  have l4 : leV (leB n 4) = n := by rw [leV_leB]; omega
  have l4c : leV (leB c 4) = c := by rw [leV_leB]; omega
  have L4 := Lib.hid l4
  have L4C := Lib.hid l4c
  have HX0 : Hid ((leB n 4 ++ leB c 4).drop 0 = leB n 4 ++ leB c 4) := List.drop_zero
  have HX4 : Hid ((leB n 4 ++ leB c 4).drop 4 = leB c 4 ++ []) := by show _ = _; rw [List.append_nil]; exact drop_len _ _ _ (leB_len _ _)
  have HLN : Hid ((leB n 4 ++ leB c 4).length ≤ 1099511627776) := by show _ ≤ _; simp [leB_len]
  have HN := Lib.hid hn
  have HC := Lib.hid hc
  have HOK := Lib.hid hok
  have HS8 := Lib.hid (hs8.below ((Below.refl _ _).alloc (Nat.le_refl _) (.cells #[.int .i64 0, .int .i64 0, .slice none 0 0] 38)) rfl)
  have HSB := Lib.hid (hsb.below ((Below.refl _ _).alloc (Nat.le_refl _) (.cells #[.int .i64 0, .int .i64 0, .slice none 0 0] 38)) rfl)
  have HE1 := Lib.hid (hE.below ((Below.refl _ _).alloc hE.hi (.cells #[.int .i64 0, .int .i64 0, .slice none 0 0] 38)))
  have hBw := hE.hi
  have i1 : ¬ (xs.length : Int) < 8 := by omega
  have i2 : (8 : Int) ≤ (cap : Int) := by omega
  have i3 : ¬ cap = 0 := by omega
  have i4 : ¬ (65536 : Int) < (n : Int) := by omega
  have i5 : ¬ ((xs.length : Int) - 8) < (n : Int) := by omega
  have i6 : ¬ cap = 8 := by omega
  clear h hs8 hsb hE hok hn hc l4 l4c hxs hform ht8 hd8 hbd hbb
  go_enter Tryz.func110, Tryz.ntmps110
  go_wp2_with fail
  refine (newreader_any _ (leB n 4 ++ leB c 4) _ HS8.out HLN.out).mono ?_
  rintro e w1 ⟨⟨r, v1, rfl, hr, hrd⟩, hb1⟩
  simp only [World.alloc_size'] at hr
  have hb1' : Below (w.heap.size + 1) (w.alloc (.cells #[.int .i64 0, .int .i64 0, .slice none 0 0] 38)) w1 := hb1.mono (by simp)
  clear hb1
  go_wp2_with fail
  refine (fixed_at 4 (leB n 4) (leB_len _ _) (by omega) (by omega) (leB_lt _ _) n L4.out r 0 v1 _ _ w1 hrd HX0.out).mono ?_
  rintro e w2 ⟨rfl, hrd2, hup2⟩
  have hb2 := hb1'.trans (hup2.to_below (B := w.heap.size + 1) (by have := hb1'.size; simpa using this) (fun b hb => by simp at hb; omega))
  clear hrd hup2 hb1'
  go_wp2_with fail
  refine (fixed_at 4 (leB c 4) (leB_len _ _) (by omega) (by omega) (leB_lt _ _) c L4C.out r _ v1 _ [] w2 hrd2 HX4.out).mono ?_
  rintro e w3 ⟨rfl, hrd3, hup3⟩
  have hb3 := hb2.trans (hup3.to_below (B := w.heap.size + 1) (by have := hb2.size; simpa using this) (fun b hb => by simp at hb; omega))
  clear hrd2 hrd3 hup3 hb2
  have HY3 := Lib.hid ((HSB.out.below hb3 (by simp)).below ((Below.refl _ _).alloc (Nat.le_refl _) (.cells #[.slice (some ⟨g, off + 8, none⟩) n (cap - 8)] 22)) rfl)
  have hs3 := hb3.size
  simp only [World.alloc_size'] at hs3
  go_wp2_with fail
  refine (of_any _ _ (.slice (some ⟨g, off + 8, none⟩) n (cap - 8)) bd _ (by go_simp) (by simp) HY3.out hblt (by rw [HN.out]; omega)).mono ?_
  rintro e w4 ⟨rfl, hb4'⟩
  rw [HC.out]
  have hb4 := (hb3.alloc hs3 (.cells #[.slice (some ⟨g, off + 8, none⟩) n (cap - 8)] 22)).trans (hb4'.mono (by simp; omega))
  have hs4 := hb4.size
  simp only [World.alloc_size'] at hs4
  have HY4 := Lib.hid (HSB.out.below hb4 (by simp))
  clear hb4' hb3 HY3 hs3
  go_wp2_with fail
  refine (read_ok x HOK.out (w.heap.size :: N) _ _ (fun k hk => by rcases List.mem_cons.1 hk with rfl | hk; omega; have := hN k hk; omega) (by rw [HBD.out]; exact HY4.out)).mono ?_
  rintro e w5 ⟨⟨rs, rfl, hro⟩, hb5'⟩
  have hb5 := hb4.trans (hb5'.mono hs4)
  have hs5 := hb5.size
  simp only [World.alloc_size'] at hs5
  obtain ⟨cs, hcs⟩ := hro
  obtain ⟨ua, uc, rfl⟩ := owns_shape hcs.1
  have hbt : BtV w5 (.agg #[.int .i64 x.b, .int .i64 x.e, .slice ua x.r.length uc]) x := ⟨_, rfl, RcO.read ⟨cs, hcs⟩⟩
  have HBT := Lib.hid (hbt.below ((Below.refl _ _).alloc (Nat.le_refl _) (.cells #[.int .i64 x.b, .int .i64 x.e, .slice ua x.r.length uc] 38)) rfl)
  have HCS := Lib.hid hcs
  have hb6 := hb5.alloc hs5 (.cells #[.int .i64 x.b, .int .i64 x.e, .slice ua x.r.length uc] 38)
  have HE6 := Lib.hid (HE1.out.below (hb6.mono (by omega)))
  clear hb4 hb5' hbt hcs
  go_wp2_with fail
  refine (valid_any h3 h4 x (by have := HOK.out.n64; omega) _ _ HE6.out HBT.out).mono ?_
  rintro e w7 ⟨rfl, hb7⟩
  rw [HOK.out.code, ev_zero]
  have b0 := (hb7.cell (p := ⟨w5.heap.size, 0, none⟩) (by simp)).trans (show _ = some (Value.int .i64 x.b) by go_simp)
  have b1 := (hb7.cell (p := ⟨w5.heap.size, 1, none⟩) (by simp)).trans (show _ = some (Value.int .i64 x.e) by go_simp)
  have b2 := (hb7.cell (p := ⟨w5.heap.size, 2, none⟩) (by simp)).trans (show _ = some (Value.slice ua x.r.length uc) by go_simp)
  have HBT7 := Lib.hid (HBT.out.below hb7 rfl)
  go_wp2_with fail
  refine (body_any x HOK.out _ _ HBT7.out).mono ?_
  rintro e w8 ⟨⟨v8, rfl, hown8⟩, hb8⟩
  rw [HBD.out, HN.out] at hown8
  have HY8 := Lib.hid (owns_read hown8).2
  have hs6 := hb6.size
  simp only [World.alloc_size'] at hs6
  have hs7 := hb7.size
  simp only [World.alloc_size'] at hs7
  have hb8f := (hb6.trans (hb7.mono (by simp; omega))).trans (hb8.mono (by omega))
  have HIN8 := Lib.hid (HSB.out.below hb8f (by simp))
  have hs8 := hb8.size
  clear hown8
  go_wp2_with fail
  refine (equal_same v8 _ bd _ HY8.out HIN8.out (by rw [HN.out]; omega)).mono ?_
  rintro e w9 ⟨rfl, hb9⟩
  have hb9f := hb8f.trans (hb9.mono (by omega))
  have d0 := (hb9.cell (p := ⟨w5.heap.size, 0, none⟩) (by show w5.heap.size < _; omega)).trans ((hb8.cell (p := ⟨w5.heap.size, 0, none⟩) (by show w5.heap.size < _; omega)).trans b0)
  have d1 := (hb9.cell (p := ⟨w5.heap.size, 1, none⟩) (by show w5.heap.size < _; omega)).trans ((hb8.cell (p := ⟨w5.heap.size, 1, none⟩) (by show w5.heap.size < _; omega)).trans b1)
  have d2 := (hb9.cell (p := ⟨w5.heap.size, 2, none⟩) (by show w5.heap.size < _; omega)).trans ((hb8.cell (p := ⟨w5.heap.size, 2, none⟩) (by show w5.heap.size < _; omega)).trans b2)
  have hrow0 : (w.alloc (.cells #[.int .i64 0, .int .i64 0, .slice none 0 0] 38)).rowIs w.heap.size 38 3 (btF 0 0 (.slice none 0 0)) :=
    World.rowIs_alloc w #[.int .i64 0, .int .i64 0, .slice none 0 0] _ _ (fun i hi => by
      have hi' : i < 3 := hi
      rcases (show i = 0 ∨ i = 1 ∨ i = 2 by omega) with rfl | rfl | rfl <;> rfl)
  have hrow9 := hrow0.of_block (hb9f.block w.heap.size (by omega))
  have e0 := hrow9.cell (i := 0) (by omega)
  have e1 := hrow9.cell (i := 1) (by omega)
  have e2 := hrow9.cell (i := 2) (by omega)
  have f0 := hrow9.frozen 0
  have f1 := hrow9.frozen 1
  have f2 := hrow9.frozen 2
  have hs9 := hb9.size
  clear b0 b1 b2 hrow0
  go_wp2_with fail
  have hrF := ((hrow9.set 0 (.int .i64 x.b)).set 1 (.int .i64 x.e)).set 2 (.slice ua x.r.length uc)
  have huF : Upd [w.heap.size] w9 (((w9.setCell ⟨w.heap.size, 0, none⟩ (.int .i64 x.b)).setCell ⟨w.heap.size, 1, none⟩ (.int .i64 x.e)).setCell ⟨w.heap.size, 2, none⟩ (.slice ua x.r.length uc)) :=
    (((Upd.refl _ _).setCell _ _ _ (.inl (by simp))).setCell _ _ _ (.inl (by simp))).setCell _ _ _ (.inl (by simp))
  generalize hw : ((w9.setCell ⟨w.heap.size, 0, none⟩ (.int .i64 x.b)).setCell ⟨w.heap.size, 1, none⟩ (.int .i64 x.e)).setCell ⟨w.heap.size, 2, none⟩ (.slice ua x.r.length uc) = wf
  rw [hw] at hrF huF
  have g0 : wf.cell? ⟨w.heap.size, 0, none⟩ = some (.int .i64 x.b) := hrF.cell (i := 0) (by omega)
  have g1 : wf.cell? ⟨w.heap.size, 1, none⟩ = some (.int .i64 x.e) := hrF.cell (i := 1) (by omega)
  have g2 : wf.cell? ⟨w.heap.size, 2, none⟩ = some (.slice ua x.r.length uc) := hrF.cell (i := 2) (by omega)
  have hu59 : Upd [] w5 w9 := (((Upd.refl [] w5).alloc (.cells #[.int .i64 x.b, .int .i64 x.e, .slice ua x.r.length uc] 38)).trans (Upd.of_below hb7 (Nat.le_refl _))).trans ((Upd.of_below hb8 (Nat.le_refl _)).trans (Upd.of_below hb9 (Nat.le_refl _)))
  have hroF : RcO wf w.heap.size (.slice ua x.r.length uc) x.r N :=
    RcO.sub ⟨cs, ((HCS.out.bound (by omega)).upd hu59 (by simp)).upd huF (fun b hb => .inl (by simp at hb; simp [hb]))⟩ (fun b hb => by simp [hb])
  have hbF : Below w.heap.size w wf := (below_box hb9f (Nat.le_refl _)).trans (huF.to_below (by have := hb9f.size; simp at this; omega) (fun b hb => by simp at hb; omega))
  have HL : ((batB x).length : Int) = 8 + (n : Int) := by have := HBB.out; omega
  rw [HL]
  exact bodyPost_ret (v := .tuple #[.agg #[.int .i64 x.b, .int .i64 x.e, .slice ua x.r.length uc], .int .i64 (8 + (n : Int)), .nilIface]) (by simp [results, Tryz.results110, go_sem, g0, g1, g2]) rfl ⟨⟨_, rfl, hroF⟩, hbF⟩

end Go.Proofs.YtncjffkpkmjgkaaGreatDoor.Sg

/-! SRs -/
namespace Go.Proofs.YtncjffkpkmjgkaaGreatDoor.Sg
open Go.RowKit Er

/-- Nothing is there, or it lies apart from N. -/
def Apart (v : Value) (xs : List Nat) (N : List Nat) : Prop := xs = [] ∨ ∀ b, v.ownBlock = some b → b ∉ N
theorem Apart.sub {v : Value} {xs N N' : List Nat} (h : Apart v xs N) (hs : ∀ k, k ∈ N' → k ∈ N) : Apart v xs N' := h.imp id (fun h b hb hm => h b hb (hs b hm))

def RcAtN (w : World) (g o : Nat) (x : Rc) (N : List Nat) : Prop :=
  w.cell? ⟨g, o, none⟩ = some (.int .i64 x.t) ∧ ∃ kv vv, w.cell? ⟨g, o + 1, none⟩ = some kv ∧ SlB w kv x.k ∧ w.cell? ⟨g, o + 2, none⟩ = some vv ∧ SlB w vv x.v ∧ Apart kv x.k N ∧ Apart vv x.v N

/-- A slice of records; neither it nor what it leads to lies in a block of N. -/
def RcsN (w : World) (v : Value) (L : List Rc) (N : List Nat) : Prop :=
  (v = .slice none 0 0 ∧ L = []) ∨ (∃ g off cap, v = .slice (some ⟨g, off, none⟩) L.length cap ∧ L.length ≤ cap ∧ g < w.heap.size ∧ g ∉ N ∧ ∀ (k : Nat) x, L[k]? = some x → RcAtN w g (off + k * 3) x N) ∨ ∃ a cap, v = .slice (some a) 0 cap ∧ L = []

theorem RcAtN.plain {w : World} {g o : Nat} {x : Rc} {N : List Nat} (h : RcAtN w g o x N) : RcAt w g o x := by
  obtain ⟨a, kv, vv, b, c, d, e, -, -⟩ := h
  exact ⟨a, kv, vv, b, c, d, e⟩

theorem RcsN.plain {w : World} {v : Value} {L : List Rc} {N : List Nat} (h : RcsN w v L N) : RcsV w v L := by
  rcases h with h | ⟨g, off, cap, hv, hc, hg, -, h⟩ | h
  · exact Or.inl h
  · exact Or.inr (Or.inl ⟨g, off, cap, hv, hc, hg, fun k x hx => (h k x hx).plain⟩)
  · exact Or.inr (Or.inr h)

theorem SlB.upd' {M N : List Nat} {w w' : World} {v : Value} {xs : List Nat} (h : SlB w v xs) (hu : Upd M w w') (hM : ∀ k, k ∈ M → k ∈ N ∨ w.heap.size ≤ k) (hn : Apart v xs N) : SlB w' v xs := by
  rcases List.eq_nil_or_concat xs with rfl | ⟨ys, y, hxs⟩
  · exact h.empty
  have hne : xs ≠ [] := by rw [hxs]; simp
  exact h.upd hu (fun k hk e => by
    rcases hM k hk with h1 | h1
    · exact hn.elim hne (fun hn => hn k e h1)
    · have := h.own_lt hne e; omega)

theorem RcsN.upd {M N : List Nat} {w w' : World} {v : Value} {L : List Rc} (h : RcsN w v L N) (hu : Upd M w w') (hM : ∀ k, k ∈ M → k ∈ N ∨ w.heap.size ≤ k) : RcsN w' v L N := by
  rcases h with h | ⟨g, off, cap, hv, hc, hg, hgn, h⟩ | h
  case inr.inr => exact Or.inr (Or.inr h)
  · exact Or.inl h
  · have hgm : g ∉ M := fun hm => by
      rcases hM g hm with h1 | h1
      · exact hgn h1
      · omega
    refine Or.inr (Or.inl ⟨g, off, cap, hv, hc, by have := hu.size; omega, hgn, fun k x hx => ?_⟩)
    obtain ⟨a, kv, vv, b, c, d, e, f, f'⟩ := h k x hx
    exact ⟨(hu.cell hg hgm).trans a, kv, vv, (hu.cell hg hgm).trans b, c.upd' hu hM f, (hu.cell hg hgm).trans d, e.upd' hu hM f', f, f'⟩

theorem RcsN.sub {w : World} {v : Value} {L : List Rc} {N N' : List Nat} (h : RcsN w v L N) (hs : ∀ k, k ∈ N' → k ∈ N) : RcsN w v L N' := by
  rcases h with h | ⟨g, off, cap, hv, hc, hg, hgn, h⟩ | h
  case inr.inr => exact Or.inr (Or.inr h)
  · exact Or.inl h
  · refine Or.inr (Or.inl ⟨g, off, cap, hv, hc, hg, fun hm => hgn (hs g hm), fun k x hx => ?_⟩)
    obtain ⟨a, kv, vv, b, c, d, e, f, f'⟩ := h k x hx
    exact ⟨a, kv, vv, b, c, d, e, f.sub hs, f'.sub hs⟩

theorem RcsN.drop {w : World} {g off n cap : Nat} {L : List Rc} {N : List Nat} (h : RcsN w (.slice (some ⟨g, off, none⟩) n cap) L N) {p : Nat} : RcsN w (.slice (some ⟨g, off + p * 3, none⟩) (L.length - p) (cap - p)) (L.drop p) N := by
  rcases h with ⟨h, _⟩ | ⟨g', off', c, h1, h2, h3, h4, h5⟩ | ⟨a, _, h1, h2⟩
  case inr.inr => cases h1; subst h2; exact Or.inr (Or.inr ⟨_, _, by simp; exact ⟨rfl, rfl⟩, by simp⟩)
  · cases h
  · cases h1
    refine Or.inr (Or.inl ⟨g, off + p * 3, cap - p, by simp, by simp; omega, h3, h4, fun k x hx => ?_⟩)
    rw [List.getElem?_drop] at hx
    have := h5 _ x hx
    rwa [show off + (p + k) * 3 = off + p * 3 + k * 3 from by omega] at this

/-- What a call owns can be read. -/
theorem RcO.readN {w : World} {base : Nat} {u : Value} {L : List Rc} {N : List Nat} (h : RcO w base u L N) : RcsN w u L N := by
  obtain ⟨cs, h1, h2, h3⟩ := h
  rcases h1.2 with ⟨rfl, h0⟩ | ⟨g, cap, cur, rfl, hb, hg, hc1, hc2, hc3, hc4⟩
  · exact Or.inl ⟨rfl, List.eq_nil_of_length_eq_zero h0⟩
  · refine Or.inr (Or.inl ⟨g, 0, cap, rfl, hc1, (Array.getElem?_eq_some_iff.1 hg).1, h2 g rfl, fun k x hx => ?_⟩)
    obtain ⟨a, kv, vv, b, c, d, e, f, f'⟩ := h3 k x hx
    have ca := h1.cells (g := g) rfl (k * 3) _ a
    have cb := h1.cells (g := g) rfl (k * 3 + 1) _ b
    have cd := h1.cells (g := g) rfl (k * 3 + 2) _ d
    rw [addr_add] at ca cb cd
    rw [Nat.zero_add]
    exact ⟨ca, kv, vv, cb, c, cd, e, f.imp id (fun f b hb => (f b hb).1), f'.imp id (fun f b hb => (f b hb).1)⟩

/-- A batch as a value, apart from N. -/
def BtN (w : World) (v : Value) (x : Bt) (N : List Nat) : Prop := ∃ rs, v = .agg #[.int .i64 x.b, .int .i64 x.e, rs] ∧ RcsN w rs x.r N
theorem BtN.plain {w : World} {v : Value} {x : Bt} {N : List Nat} (h : BtN w v x N) : BtV w v x := by
  obtain ⟨rs, hv, h⟩ := h
  exact ⟨rs, hv, h.plain⟩
theorem BtN.upd {M N : List Nat} {w w' : World} {v : Value} {x : Bt} (h : BtN w v x N) (hu : Upd M w w') (hM : ∀ k, k ∈ M → k ∈ N ∨ w.heap.size ≤ k) : BtN w' v x N := by
  obtain ⟨rs, hv, h⟩ := h
  exact ⟨rs, hv, h.upd hu hM⟩

end Go.Proofs.YtncjffkpkmjgkaaGreatDoor.Sg

/-! SCl -/
namespace Go.Proofs.YtncjffkpkmjgkaaGreatDoor.Sg
open Go.RowKit Er

/-- The cells of a row, as they lie. -/
def cellsFrom (w : World) (g off m : Nat) : List Value := (List.range m).map fun j => (w.cell? ⟨g, off + j, none⟩).getD undef
theorem cellsFrom_len (w : World) (g off m : Nat) : (cellsFrom w g off m).length = m := by simp [cellsFrom]
theorem cellsFrom_at (w : World) (g off m j : Nat) (h : j < m) : (cellsFrom w g off m)[j]? = some ((w.cell? ⟨g, off + j, none⟩).getD undef) := by simp [cellsFrom, h]

theorem rcs_cell {w : World} {g off : Nat} {L : List Rc} {N : List Nat} (h : ∀ (k : Nat) x, L[k]? = some x → RcAtN w g (off + k * 3) x N) (j : Nat) (hj : j < L.length * 3) : ∃ u, w.cell? ⟨g, off + j, none⟩ = some u ∧ u.oneCell' = true := by
  have hk : j / 3 < L.length := by omega
  obtain ⟨a, kv, vv, b, c, d, e, -, -⟩ := h (j / 3) _ (List.getElem?_eq_getElem hk)
  obtain ⟨ka, kc, rfl, -⟩ := c.shape
  obtain ⟨va, vc, rfl, -⟩ := e.shape
  rcases (show j % 3 = 0 ∨ j % 3 = 1 ∨ j % 3 = 2 by omega) with h0 | h0 | h0
  · rw [show off + j = off + j / 3 * 3 from by omega]; exact ⟨_, a, rfl⟩
  · rw [show off + j = off + j / 3 * 3 + 1 from by omega]; exact ⟨_, b, rfl⟩
  · rw [show off + j = off + j / 3 * 3 + 2 from by omega]; exact ⟨_, d, rfl⟩

set_option maxRecDepth 100000 in
set_option maxHeartbeats 400000 in
/-- slices.Clone of records: a row of one's own; keys and values are shared. -/
theorem clonercs_any (L : List Rc) (N : List Nat) (g off cap : Nat) (w : World) (h : RcsN w (.slice (some ⟨g, off, none⟩) L.length cap) L N) (hL : L ≠ []) (hl : L.length ≤ 1000) (hN : ∀ k, k ∈ N → k < w.heap.size) :
    Calls Tryz.prog 136 #[.slice (some ⟨g, off, none⟩) L.length cap] w fun e w' => (∃ u, e = .returned u ∧ RcO w' w.heap.size u L N) ∧ Below w.heap.size w w' := by
  rcases h with ⟨h, _⟩ | ⟨g', off', cap', hv, hc, hg, hgn, hat⟩ | ⟨_, _, _, h0⟩
  case inr.inr => exact absurd h0 hL
  · cases h
  cases hv
  have hq := fun (w : World) => Lib.run_eql_slice_nil (P := Tryz.prog) w 36 116 (some ⟨g, off, none⟩) L.length cap 0 0 Tryz.underlying36
  obtain ⟨i0, hi0, hz0, hz1, hz2⟩ := info_parts infoRc
  have HI := Lib.hid hi0
  have hown := World.ownsRow_made (base := w.heap.size) (e := 116) (size := 3) w #[] 0 (Nat.le_refl _) (by unfold maxLen; omega) rfl
  have HO := Lib.hid hown
  have hal : Upd [] w (w.alloc (.cells #[] 116)) := (Upd.refl [] w).alloc _
  have hat1 : ∀ (k : Nat) x, L[k]? = some x → RcAtN (w.alloc (.cells #[] 116)) g (off + k * 3) x N := fun k x hx => by
    obtain ⟨a, kv, vv, b, c, d, e, f, f'⟩ := hat k x hx
    exact ⟨(hal.cell hg (by simp)).trans a, kv, vv, (hal.cell hg (by simp)).trans b, c.upd hal (by simp), (hal.cell hg (by simp)).trans d, e.upd hal (by simp), f, f'⟩
  have HAT := Lib.hid hat1
  have HATW := Lib.hid hat
  clear hi0 hown hat hat1
  go_enter Tryz.func136, Tryz.ntmps136
  go_wp2_with (at_builtin; refine wpList_append_own_at _ rfl _ _ 36 rfl w.heap.size 116 i0 (.agg #[.int .i64 0, .slice none 0 0, .slice none 0 0]) 3 56 Tryz.underlying36 HI.out hz0 hz1 hz2 rfl (by decide) _ 0 [] rfl HO.out ⟨g, off, none⟩ L.length cap (cellsFrom (w.alloc (.cells #[] 116)) g off (L.length * 3)) rfl (cellsFrom_len _ _ _ _) ?c1 ?c2 ?c3 ?c4 ?c5 ?_)
  case c1 =>
    intro j u hu
    have hj : j < L.length * 3 := by have := (List.getElem?_eq_some_iff.1 hu).1; rwa [cellsFrom_len] at this
    obtain ⟨u', hu', -⟩ := rcs_cell HAT.out j hj
    rw [cellsFrom_at _ _ _ _ _ hj, hu'] at hu
    cases hu
    rw [addr_add']; exact hu'
  case c2 =>
    intro u hu
    obtain ⟨j, hj, rfl⟩ := List.mem_iff_getElem.1 hu
    rw [cellsFrom_len] at hj
    obtain ⟨u', hu', ho⟩ := rcs_cell HAT.out j hj
    have := cellsFrom_at (w.alloc (.cells #[] 116)) g off _ j hj
    rw [hu', List.getElem?_eq_getElem (by rw [cellsFrom_len]; exact hj)] at this
    rw [Option.some.inj this]; exact ho
  case c3 => unfold maxLen; omega
  case c4 => omega
  case c5 => simp
  intro v2 w4 hown' hgrow _ hat'
  have HO4 := Lib.hid hown'
  have HG := Lib.hid hgrow
  have HAT2 := Lib.hid hat'
  clear hown' hgrow hat'
  go_wp2_with fail
  go_ret
  have hb : Below w.heap.size w w4 := ((Below.refl _ _).alloc (Nat.le_refl _) _).grown HG.out (by simp) (fun k hk => by simp [Value.ownBlock] at hk; omega)
  have hown : w4.ownsRow w.heap.size 116 3 v2 L.length (cellsFrom (w.alloc (.cells #[] 116)) g off (L.length * 3)) := by
    have := HO4.out
    simpa using this
  refine ⟨⟨v2, rfl, _, hown, fun b hb' hm => ?_, fun k x hx => ?_⟩, hb⟩
  · have := (World.ownsRow.lt hown b hb').1
    have := hN b hm
    omega
  · have hkl := (List.getElem?_eq_some_iff.1 hx).1
    obtain ⟨a, kv, vv, b, c, d, e, f, f'⟩ := HATW.out k x hx
    obtain ⟨a', kv', vv', b', -, d', -, -, -⟩ := HAT.out k x hx
    have hu4 : Upd [] w w4 := Upd.of_below hb (Nat.le_refl _)
    have e1 : kv' = kv := by rw [hal.cell hg (by simp)] at b'; rw [b] at b'; exact (Option.some.inj b').symm
    have e2 : vv' = vv := by rw [hal.cell hg (by simp)] at d'; rw [d] at d'; exact (Option.some.inj d').symm
    subst e1 e2
    have nn : ∀ {y : Value} {ys : List Nat}, SlB w y ys → Apart y ys N → ApartO y ys N v2 := by
      intro y ys hs hn
      rcases List.eq_nil_or_concat ys with rfl | ⟨zs, z, hzs⟩
      · exact .inl rfl
      have hne : ys ≠ [] := by rw [hzs]; simp
      exact .inr (fun b hb' => ⟨hn.resolve_left hne b hb', fun e' => by
        have := (World.ownsRow.lt hown b e').1
        have := hs.own_lt hne hb'
        omega⟩)
    refine ⟨?_, kv', vv', ?_, c.upd hu4 (by simp), ?_, e.upd hu4 (by simp), nn c f, nn e f'⟩
    · rw [cellsFrom_at _ _ _ _ _ (by omega), a']; rfl
    · rw [cellsFrom_at _ _ _ _ _ (by omega), ← Nat.add_assoc, b']; rfl
    · rw [cellsFrom_at _ _ _ _ _ (by omega), ← Nat.add_assoc, d']; rfl

end Go.Proofs.YtncjffkpkmjgkaaGreatDoor.Sg

/-! SFr -/
namespace Go.Proofs.YtncjffkpkmjgkaaGreatDoor.Sg
open Go.RowKit Er

theorem RcsN.more {w : World} {v : Value} {L : List Rc} {N K : List Nat} (h : RcsN w v L N) (hK : ∀ k, k ∈ K → w.heap.size ≤ k) : RcsN w v L (K ++ N) := by
  have more : ∀ {v : Value} {xs : List Nat}, SlB w v xs → Apart v xs N → Apart v xs (K ++ N) := by
    intro v xs hs hn
    rcases List.eq_nil_or_concat xs with rfl | ⟨ys, y, hxs⟩
    · exact .inl rfl
    have hne : xs ≠ [] := by rw [hxs]; simp
    refine .inr (fun b hb hm => ?_)
    rcases List.mem_append.1 hm with h1 | h1
    · have := hK b h1; have := hs.own_lt hne hb; omega
    · exact hn.resolve_left hne b hb h1
  rcases h with h | ⟨g, off, cap, hv, hc, hg, hgn, h⟩ | h
  case inr.inr => exact Or.inr (Or.inr h)
  · exact Or.inl h
  · refine Or.inr (Or.inl ⟨g, off, cap, hv, hc, hg, fun hm => ?_, fun k x hx => ?_⟩)
    · rcases List.mem_append.1 hm with h1 | h1
      · have := hK g h1; omega
      · exact hgn h1
    · obtain ⟨a, kv, vv, b, c, d, e, f, f'⟩ := h k x hx
      exact ⟨a, kv, vv, b, c, d, e, more c f, more e f'⟩

set_option maxRecDepth 100000 in
set_option maxHeartbeats 400000 in
theorem from_ahead (x : Bt) (o : Int) (ho : o ≤ x.b) (N : List Nat) (v : Value) (w : World) (h : BtN w v x N) :
    Calls Tryz.prog 98 #[v, .int .i64 o] w fun e w' => (∃ v', e = .returned v' ∧ BtN w' v' x N) ∧ Below w.heap.size w w' := by
  obtain ⟨rs, hv, h⟩ := h
  obtain ⟨va, vc, rfl⟩ := h.plain.shape
  subst hv
  have HR := Lib.hid h
  clear h
  go_enter Tryz.func98, Tryz.ntmps98
  go_wp2_with fail
  have hb : Below w.heap.size w ((w.alloc (.cells #[.int .i64 x.b, .int .i64 x.e, .slice va x.r.length vc] 38)).alloc (.cells #[.int .i64 x.b, .int .i64 x.e, .slice va x.r.length vc] 38)) :=
    ((Below.refl _ _).alloc (Nat.le_refl _) _).alloc (by simp) _
  exact bodyPost_ret (v := .agg #[.int .i64 x.b, .int .i64 x.e, .slice va x.r.length vc]) (by simp [results, Tryz.results98, go_sem]) rfl ⟨⟨_, rfl, _, rfl, HR.out.upd (Upd.of_below (M := []) hb (Nat.le_refl _)) (by simp)⟩, hb⟩

set_option maxRecDepth 100000 in
set_option maxHeartbeats 400000 in
theorem from_in (x : Bt) (p : Nat) (hp0 : 0 < p) (hp : p < x.r.length) (_ : 0 ≤ x.b) (_ : x.b ≤ 1099511627776) (hn : x.r.length ≤ 1000) (N : List Nat) (w : World) (hN : ∀ k, k ∈ N → k < w.heap.size) (v : Value) (h : BtN w v x N) :
    Calls Tryz.prog 98 #[v, .int .i64 (x.b + p)] w fun e w' => (∃ v', e = .returned v' ∧ BtN w' v' ⟨x.b + p, x.e, x.r.drop p⟩ N) ∧ Below w.heap.size w w' := by
  obtain ⟨rs, hv, h⟩ := h
  subst hv
  have HR := Lib.hid h
  rcases h with ⟨_, hnil⟩ | ⟨g, off, cap, rfl, hcap, hg, hgn, -⟩ | ⟨_, _, _, hnil⟩
  case inr.inr => rw [hnil] at hp; simp at hp
  · rw [hnil] at hp; simp at hp
  have hbW : Below w.heap.size w ((w.alloc (.cells #[.int .i64 x.b, .int .i64 x.e, .slice (some ⟨g, off, none⟩) x.r.length cap] 38)).alloc (.cells #[.int .i64 0, .int .i64 0, .slice none 0 0] 38)) :=
    ((Below.refl _ _).alloc (Nat.le_refl _) _).alloc (by simp) _
  have HD := Lib.hid (((HR.out.more (K := [w.heap.size, w.heap.size + 1]) (by simp)).upd (Upd.of_below (M := []) hbW (Nat.le_refl _)) (by simp)).drop (p := p))
  have HL : Hid ((x.r.drop p).length = x.r.length - p) := List.length_drop
  have i1 : (0 : Int) < (p : Int) := by omega
  have i2 : (p : Int) ≤ (x.r.length : Int) := by omega
  have i3 : (x.r.length : Int) ≤ (cap : Int) := by omega
  have i4 : ¬ cap = p := by omega
  go_enter Tryz.func98, Tryz.ntmps98
  go_wp2_with fail
  simp only [show (x.b + (p : Int) - x.b).toNat = p from by omega]
  rw [← HL.out]
  refine (clonercs_any (x.r.drop p) _ g _ _ _ (by rw [HL.out]; exact HD.out) (fun e => by have := HL.out; rw [e] at this; simp at this; omega) (by rw [HL.out]; omega) (fun k hk => by
    simp only [List.mem_append, List.mem_cons, List.not_mem_nil, or_false] at hk
    rw [World.alloc_size', World.alloc_size']
    rcases hk with (rfl | rfl) | hk
    · omega
    · omega
    · have := hN k hk; omega)).mono ?_
  rintro e w1 ⟨⟨u, rfl, cs, hcs⟩, hb1⟩
  obtain ⟨ua, uc, rfl⟩ := owns_shape hcs.1
  have hrow0 : (w.alloc (.cells #[.int .i64 x.b, .int .i64 x.e, .slice (some ⟨g, off, none⟩) x.r.length cap] 38)).rowIs w.heap.size 38 3 (btF x.b x.e (.slice (some ⟨g, off, none⟩) x.r.length cap)) :=
    World.rowIs_alloc w #[.int .i64 x.b, .int .i64 x.e, .slice (some ⟨g, off, none⟩) x.r.length cap] _ _ (fun i hi => by
      have hi' : i < 3 := hi
      rcases (show i = 0 ∨ i = 1 ∨ i = 2 by omega) with rfl | rfl | rfl <;> rfl)
  have hrow1 := ((hrow0.alloc (.cells #[.int .i64 0, .int .i64 0, .slice none 0 0] 38))).of_block (hb1.block _ (by simp; omega))
  have hrw0 := World.rowIs_alloc (w.alloc (.cells #[.int .i64 x.b, .int .i64 x.e, .slice (some ⟨g, off, none⟩) x.r.length cap] 38)) #[.int .i64 0, .int .i64 0, .slice none 0 0] 38 (btF 0 0 (.slice none 0 0)) (fun i hi => by
      have hi' : i < 3 := hi
      rcases (show i = 0 ∨ i = 1 ∨ i = 2 by omega) with rfl | rfl | rfl <;> rfl)
  rw [World.alloc_size'] at hrw0
  have hrw1 := hrw0.of_block (hb1.block _ (by rw [World.alloc_size', World.alloc_size']; omega))
  have c0 := hrow1.cell (i := 0) (by omega)
  have c1 := hrow1.cell (i := 1) (by omega)
  have c2 := hrow1.cell (i := 2) (by omega)
  have f0 := hrow1.frozen 0
  have f2 := hrow1.frozen 2
  have d0 := hrw1.cell (i := 0) (by decide)
  have d1 := hrw1.cell (i := 1) (by decide)
  have d2 := hrw1.cell (i := 2) (by decide)
  have e0 := hrw1.frozen 0
  have e1 := hrw1.frozen 1
  have e2 := hrw1.frozen 2
  rw [show btF x.b x.e (.slice (some ⟨g, off, none⟩) x.r.length cap) 1 = .int .i64 x.e from rfl] at c1
  have HU := Lib.hid hcs
  clear hcs
  go_wp2_with fail
  have hrF := ((((hrw1.setOther (a := ⟨w.heap.size, 2, none⟩) (by simp) (.slice ua (x.r.length - p) uc)).setOther (a := ⟨w.heap.size, 0, none⟩) (by simp) (.int .i64 (x.b + p))).set 0 (.int .i64 (x.b + p))).set 1 (.int .i64 x.e)).set 2 (.slice ua (x.r.length - p) uc)
  have huF : Upd [w.heap.size, w.heap.size + 1] w1 (((((w1.setCell ⟨w.heap.size, 2, none⟩ (.slice ua (x.r.length - p) uc)).setCell ⟨w.heap.size, 0, none⟩ (.int .i64 (x.b + p))).setCell ⟨w.heap.size + 1, 0, none⟩ (.int .i64 (x.b + p))).setCell ⟨w.heap.size + 1, 1, none⟩ (.int .i64 x.e)).setCell ⟨w.heap.size + 1, 2, none⟩ (.slice ua (x.r.length - p) uc)) :=
    (((((Upd.refl _ _).setCell _ _ _ (.inl (by simp))).setCell _ _ _ (.inl (by simp))).setCell _ _ _ (.inl (by simp))).setCell _ _ _ (.inl (by simp))).setCell _ _ _ (.inl (by simp))
  generalize hw : ((((w1.setCell ⟨w.heap.size, 2, none⟩ (.slice ua (x.r.length - p) uc)).setCell ⟨w.heap.size, 0, none⟩ (.int .i64 (x.b + p))).setCell ⟨w.heap.size + 1, 0, none⟩ (.int .i64 (x.b + p))).setCell ⟨w.heap.size + 1, 1, none⟩ (.int .i64 x.e)).setCell ⟨w.heap.size + 1, 2, none⟩ (.slice ua (x.r.length - p) uc) = wf
  rw [hw] at hrF huF
  have g0 : wf.cell? ⟨w.heap.size + 1, 0, none⟩ = some (.int .i64 (x.b + p)) := hrF.cell (i := 0) (by decide)
  have g1 : wf.cell? ⟨w.heap.size + 1, 1, none⟩ = some (.int .i64 x.e) := hrF.cell (i := 1) (by decide)
  have g2 : wf.cell? ⟨w.heap.size + 1, 2, none⟩ = some (.slice ua (x.r.length - p) uc) := hrF.cell (i := 2) (by decide)
  have hro := (RcO.readN ⟨cs, HU.out⟩).upd huF (fun b hb => .inl (by simp at hb; rcases hb with rfl | rfl <;> simp))
  rw [HL.out] at hro
  have hbF : Below w.heap.size w wf := ((((Upd.refl [] w).alloc _).alloc _).trans (Upd.of_below (M := []) hb1 (Nat.le_refl _))).trans' huF (fun b hb => .inr (by simp at hb; omega)) |>.to_below (Nat.le_refl _) (by simp)
  exact bodyPost_ret (v := .agg #[.int .i64 (x.b + p), .int .i64 x.e, .slice ua (x.r.length - p) uc]) (by simp [results, Tryz.results98, go_sem, g0, g1, g2]) rfl ⟨⟨_, rfl, _, rfl, hro.sub (fun k hk => by simp [hk])⟩, hbF⟩

end Go.Proofs.YtncjffkpkmjgkaaGreatDoor.Sg

/-! SNa -/
namespace Go.Proofs.YtncjffkpkmjgkaaGreatDoor.Sg
open Go.RowKit Er

theorem nright_yes (n : Int) (h0 : 0 ≤ n) (h1 : n ≤ 1099511627776) (w : World) : Calls Tryz.prog 123 #[.int .i64 n] w fun e w' => e = .returned (.bool true) ∧ w = w' := by
  go_enter Tryz.func123, Tryz.ntmps123
  go_wp2
  go_ret
  exact ⟨rfl, rfl⟩

theorem nsmall_any (c : Nat) (w : World) : Calls Tryz.prog 99 #[.int .u8 c] w fun e w' => e = .returned (.bool (decide (97 ≤ c ∧ c ≤ 122))) ∧ w = w' := by
  by_cases h1 : 97 ≤ c
  · by_cases h2 : c ≤ 122
    · have d1 : decide ((c : Int) ≤ 122) = true := by simp; omega
      have d2 : decide (c ≤ 122) = true := by simp [h2]
      rw [show decide (97 ≤ c ∧ c ≤ 122) = true from by simp [h1, h2]]
      go_enter Tryz.func99, Tryz.ntmps99
      go_wp2
      go_ret
      exact ⟨by simp, rfl⟩
    · have d1 : decide ((c : Int) ≤ 122) = false := by simp; omega
      have d2 : decide (c ≤ 122) = false := by simp [h2]
      rw [show decide (97 ≤ c ∧ c ≤ 122) = false from by simp [h2]]
      go_enter Tryz.func99, Tryz.ntmps99
      go_wp2
      go_ret
      exact ⟨by simp, rfl⟩
  · rw [show decide (97 ≤ c ∧ c ≤ 122) = false from by simp [h1]]
    go_enter Tryz.func99, Tryz.ntmps99
    go_wp2
    go_ret
    exact ⟨rfl, rfl⟩

end Go.Proofs.YtncjffkpkmjgkaaGreatDoor.Sg

/-! Hp -/
namespace Go.Proofs.YtncjffkpkmjgkaaGreatDoor.Sg
open Go.RowKit Er

/-- What stays for good: some blocks, how many there are at least, the streams. -/
structure Pm where
  os : Os
  tape : Nat → Question → Nat
  output : Array (Nat × ByteArray)
  n : Nat
  m : Nat → Option Obj

abbrev Mm := List (Nat × Obj)

structure Agr (P : Pm) (w : World) : Prop where
  os : w.os = P.os
  tape : w.tape = P.tape
  output : w.output = P.output
  n : P.n ≤ w.heap.size
  m : ∀ b o, P.m b = some o → w.heap[b]? = some o

structure Sub (P P' : Pm) : Prop where
  os : P'.os = P.os
  tape : P'.tape = P.tape
  output : P'.output = P.output
  n : P.n ≤ P'.n
  m : ∀ b o, P.m b = some o → P'.m b = some o

theorem Sub.refl (P : Pm) : Sub P P := ⟨rfl, rfl, rfl, Nat.le_refl _, fun _ _ h => h⟩
theorem Sub.trans {P Q R : Pm} (h : Sub P Q) (k : Sub Q R) : Sub P R := ⟨k.os.trans h.os, k.tape.trans h.tape, k.output.trans h.output, Nat.le_trans h.n k.n, fun b o hb => k.m b o (h.m b o hb)⟩
theorem Agr.sub {P P' : Pm} {w : World} (h : Agr P' w) (s : Sub P P') : Agr P w :=
  ⟨h.os.trans s.os, h.tape.trans s.tape, h.output.trans s.output, Nat.le_trans s.n h.n, fun b o hb => h.m b o (s.m b o hb)⟩

/-- The world has what stays for good, and the owned blocks, which are apart. -/
structure Hp (w : World) (P : Pm) (M : Mm) : Prop where
  agr : Agr P w
  own : ∀ x, x ∈ M → w.heap[x.1]? = some x.2
  nodup : (M.map (·.1)).Nodup
  apart : ∀ x, x ∈ M → P.m x.1 = none

def ids (M : Mm) : List Nat := M.map (·.1)

/-- Said of every world that has what stays for good. -/
def Pers (P : Pm) (Q : World → Prop) : Prop := ∀ w, Agr P w → Q w
theorem Pers.sub {P P' : Pm} {Q : World → Prop} (h : Pers P Q) (s : Sub P P') : Pers P' Q := fun w hw => h w (hw.sub s)
theorem Pers.imp {P : Pm} {Q R : World → Prop} (h : Pers P Q) (f : ∀ w, Q w → R w) : Pers P R := fun w hw => f w (h w hw)
theorem Pers.and {P : Pm} {Q R : World → Prop} (h : Pers P Q) (k : Pers P R) : Pers P (fun w => Q w ∧ R w) := fun w hw => ⟨h w hw, k w hw⟩
theorem Pers.pure {P : Pm} {q : Prop} (h : q) : Pers P (fun _ => q) := fun _ _ => h
theorem Hp.use {w : World} {P : Pm} {M : Mm} (h : Hp w P M) {Q : World → Prop} (q : Pers P Q) : Q w := q w h.agr

theorem Hp.lt {w : World} {P : Pm} {M : Mm} (h : Hp w P M) {x : Nat × Obj} (hx : x ∈ M) : x.1 < w.heap.size := (Array.getElem?_eq_some_iff.1 (h.own x hx)).1
theorem Hp.ids_lt {w : World} {P : Pm} {M : Mm} (h : Hp w P M) : ∀ k, k ∈ ids M → k < w.heap.size := by
  intro k hk
  obtain ⟨x, hx, rfl⟩ := List.mem_map.1 hk
  exact h.lt hx
theorem Agr.lt {w : World} {P : Pm} (h : Agr P w) {b : Nat} {o : Obj} (hb : P.m b = some o) : b < w.heap.size := (Array.getElem?_eq_some_iff.1 (h.m b o hb)).1

/-! ### cells -/
theorem Hp.cell {w : World} {P : Pm} {M : Mm} (h : Hp w P M) {b : Nat} {c : Array Value} {t : TypeId} {fr : Nat × Nat} (hm : (b, Obj.cells c t fr) ∈ M) {i : Nat} {v : Value} (hv : c[i]? = some v) : w.cell? ⟨b, i, none⟩ = some v := by
  have := h.own _ hm
  dsimp only at this
  simp [World.cell?, this, hv]
theorem Hp.frozen {w : World} {P : Pm} {M : Mm} (h : Hp w P M) {b : Nat} {c : Array Value} {t : TypeId} (hm : (b, Obj.cells c t (0, 0)) ∈ M) (i : Nat) : w.frozen? ⟨b, i, none⟩ = false := by
  have := h.own _ hm
  dsimp only at this
  simp [World.frozen?, this]

/-! ### steps -/
theorem Hp.drewN {w : World} {P : Pm} {M : Mm} (h : Hp w P M) (n : Nat) : Hp (w.drewN n) P M := ⟨⟨h.agr.os, h.agr.tape, h.agr.output, h.agr.n, h.agr.m⟩, h.own, h.nodup, h.apart⟩
theorem Hp.drew {w : World} {P : Pm} {M : Mm} (h : Hp w P M) : Hp w.drew P M := ⟨⟨h.agr.os, h.agr.tape, h.agr.output, h.agr.n, h.agr.m⟩, h.own, h.nodup, h.apart⟩

theorem Hp.alloc {w : World} {P : Pm} {M : Mm} (h : Hp w P M) (o : Obj) : Hp (w.alloc o) P ((w.heap.size, o) :: M) := by
  refine ⟨⟨h.agr.os, h.agr.tape, h.agr.output, by have := h.agr.n; simp; omega, fun b o' hb => ?_⟩, fun x hx => ?_, ?_, fun x hx => ?_⟩
  · rw [Deep.blk_alloc_lt _ _ _ (h.agr.lt hb)]; exact h.agr.m b o' hb
  · rcases List.mem_cons.1 hx with rfl | hx
    · exact Deep.blk_alloc_new w o
    · rw [Deep.blk_alloc_lt _ _ _ (h.lt hx)]; exact h.own x hx
  · rw [List.map_cons, List.nodup_cons]
    exact ⟨fun hm => by have := h.ids_lt _ hm; simp at this, h.nodup⟩
  · rcases List.mem_cons.1 hx with rfl | hx
    · cases hp : P.m w.heap.size with
      | none => rfl
      | some o' => have := h.agr.lt hp; omega
    · exact h.apart x hx

theorem Hp.perm {w : World} {P : Pm} {M M' : Mm} (h : Hp w P M) (hp : List.Perm M M') : Hp w P M' :=
  ⟨h.agr, fun x hx => h.own x (hp.mem_iff.2 hx), (hp.map _).nodup_iff.1 h.nodup, fun x hx => h.apart x (hp.mem_iff.2 hx)⟩
theorem Hp.mid {w : World} {P : Pm} {A B C : Mm} (h : Hp w P (A ++ (B ++ C))) : Hp w P (B ++ (A ++ C)) :=
  h.perm (by rw [← List.append_assoc, ← List.append_assoc]; exact List.perm_append_comm.append_right C)
theorem perm_erase {α : Type} : ∀ (M : List α) (k : Nat) (x : α), M[k]? = some x → List.Perm M (x :: M.eraseIdx k)
  | [], _, _, h => by simp at h
  | y :: l, 0, x, h => by simp at h; subst h; exact List.Perm.refl _
  | y :: l, k + 1, x, h => ((perm_erase l k x (by simpa using h)).cons y).trans (List.Perm.swap x y _)
/-- The k-th block comes ahead. -/
theorem Hp.pick {w : World} {P : Pm} {M : Mm} (h : Hp w P M) (k : Nat) {x : Nat × Obj} (hx : M[k]? = some x) : Hp w P (x :: M.eraseIdx k) := h.perm (perm_erase M k x hx)
theorem Hp.drop {w : World} {P : Pm} {M M' : Mm} (h : Hp w P (M ++ M')) : Hp w P M' :=
  ⟨h.agr, fun x hx => h.own x (List.mem_append_right _ hx), by
    have := h.nodup; rw [List.map_append] at this; exact (List.nodup_append.1 this).2.1, fun x hx => h.apart x (List.mem_append_right _ hx)⟩
theorem Hp.tail {w : World} {P : Pm} {x : Nat × Obj} {M : Mm} (h : Hp w P (x :: M)) : Hp w P M := Hp.drop (M := [x]) h

/-- A store into the block ahead. -/
theorem Hp.set {w : World} {P : Pm} {M : Mm} {b : Nat} {c : Array Value} {t : TypeId} {fr : Nat × Nat} (h : Hp w P ((b, .cells c t fr) :: M)) (i : Nat) (v : Value) :
    Hp (w.setCell ⟨b, i, none⟩ v) P ((b, .cells (c.setIfInBounds i v) t fr) :: M) := by
  have hnd := h.nodup
  rw [List.map_cons, List.nodup_cons] at hnd
  refine ⟨⟨h.agr.os, h.agr.tape, h.agr.output, by simpa [World.setCell] using h.agr.n, fun b' o' hb => ?_⟩, fun x hx => ?_, ?_, fun x hx => ?_⟩
  · have hne : b' ≠ b := by
      intro e
      have := h.apart (b, .cells c t fr) (by simp)
      rw [e] at hb
      rw [hb] at this
      cases this
    rw [Deep.blk_setCell_other _ _ _ _ hne]; exact h.agr.m b' o' hb
  · rcases List.mem_cons.1 hx with rfl | hx
    · have := h.own (b, .cells c t fr) (by simp)
      dsimp only at this ⊢
      simp [World.setCell, Array.getElem?_modify, this]
    · have hne : x.1 ≠ b := fun e => hnd.1 (List.mem_map.2 ⟨x, hx, e⟩)
      rw [Deep.blk_setCell_other _ _ _ _ hne]; exact h.own x (List.mem_cons_of_mem _ hx)
  · rw [List.map_cons, List.nodup_cons]; exact hnd
  · rcases List.mem_cons.1 hx with rfl | hx
    · exact h.apart (b, .cells c t fr) (by simp)
    · exact h.apart x (List.mem_cons_of_mem _ hx)

/-- Another object in the block ahead (a map). -/
theorem Hp.setObj {w : World} {P : Pm} {M : Mm} {b : Nat} {o : Obj} (h : Hp w P ((b, o) :: M)) {w' : World} {o' : Obj} (hu : Upd [b] w w') (ho : w'.heap[b]? = some o') : Hp w' P ((b, o') :: M) := by
  have hnd := h.nodup
  rw [List.map_cons, List.nodup_cons] at hnd
  refine ⟨⟨hu.os.trans h.agr.os, hu.tape.trans h.agr.tape, hu.output.trans h.agr.output, Nat.le_trans h.agr.n hu.size, fun b' o'' hb => ?_⟩, fun x hx => ?_, ?_, fun x hx => ?_⟩
  · have hne : b' ≠ b := by
      intro e
      have := h.apart (b, o) (by simp)
      rw [e] at hb
      rw [hb] at this
      cases this
    rw [hu.block _ (h.agr.lt hb) (by simpa using hne)]; exact h.agr.m b' o'' hb
  · rcases List.mem_cons.1 hx with rfl | hx
    · exact ho
    · have hne : x.1 ≠ b := fun e => hnd.1 (List.mem_map.2 ⟨x, hx, e⟩)
      rw [hu.block _ (h.lt (List.mem_cons_of_mem _ hx)) (by simpa using hne)]; exact h.own x (List.mem_cons_of_mem _ hx)
  · rw [List.map_cons, List.nodup_cons]; exact hnd
  · rcases List.mem_cons.1 hx with rfl | hx
    · exact h.apart (b, o) (by simp)
    · exact h.apart x (List.mem_cons_of_mem _ hx)

/-- Only blocks that are not told of have turned. -/
theorem Hp.upd {w w' : World} {P : Pm} {M : Mm} {N : List Nat} (h : Hp w P M) (hu : Upd N w w') (hN : ∀ k, k ∈ N → (k ∉ ids M ∧ P.m k = none) ∨ w.heap.size ≤ k) : Hp w' P M := by
  have ok : ∀ k, k < w.heap.size → (k ∈ ids M ∨ ∃ o, P.m k = some o) → k ∉ N := by
    intro k hk hor hn
    rcases hN k hn with ⟨h1, h2⟩ | h1
    · rcases hor with h3 | ⟨o, h3⟩
      · exact h1 h3
      · rw [h2] at h3; cases h3
    · omega
  refine ⟨⟨hu.os.trans h.agr.os, hu.tape.trans h.agr.tape, hu.output.trans h.agr.output, Nat.le_trans h.agr.n hu.size, fun b o hb => ?_⟩, fun x hx => ?_, h.nodup, h.apart⟩
  · rw [hu.block _ (h.agr.lt hb) (ok b (h.agr.lt hb) (.inr ⟨o, hb⟩))]; exact h.agr.m b o hb
  · rw [hu.block _ (h.lt hx) (ok _ (h.lt hx) (.inl (List.mem_map.2 ⟨x, hx, rfl⟩)))]; exact h.own x hx
/-- Only new blocks. -/
theorem Hp.below {w w' : World} {P : Pm} {M : Mm} (h : Hp w P M) {B : Nat} (hb : Below B w w') (hB : w.heap.size ≤ B) : Hp w' P M := h.upd (Upd.of_below (M := []) hb hB) (by simp)
/-- The blocks ahead may have turned: they are let go. -/
theorem Hp.upd_drop {w w' : World} {P : Pm} {A M : Mm} {N : List Nat} (h : Hp w P (A ++ M)) (hu : Upd N w w') (hN : ∀ k, k ∈ N → k ∈ ids A ∨ w.heap.size ≤ k) : Hp w' P M := by
  refine h.drop.upd hu (fun k hk => ?_)
  rcases hN k hk with h1 | h1
  · obtain ⟨x, hx, rfl⟩ := List.mem_map.1 h1
    refine .inl ⟨fun hm => ?_, h.apart x (List.mem_append_left _ hx)⟩
    have := h.nodup
    rw [List.map_append] at this
    exact (List.nodup_append.1 this).2.2 x.1 (List.mem_map.2 ⟨x, hx, rfl⟩) x.1 hm rfl
  · exact .inr h1
/-- A block is taken in. -/
theorem Hp.take {w : World} {P : Pm} {M : Mm} (h : Hp w P M) {b : Nat} {o : Obj} (ho : w.heap[b]? = some o) (h1 : b ∉ ids M) (h2 : P.m b = none) : Hp w P ((b, o) :: M) := by
  refine ⟨h.agr, fun x hx => ?_, ?_, fun x hx => ?_⟩
  · rcases List.mem_cons.1 hx with rfl | hx
    · exact ho
    · exact h.own x hx
  · rw [List.map_cons, List.nodup_cons]; exact ⟨h1, h.nodup⟩
  · rcases List.mem_cons.1 hx with rfl | hx
    · exact h2
    · exact h.apart x hx
/-- .. one that was not there before. -/
theorem Hp.takeNew {w w' : World} {P : Pm} {M : Mm} (h : Hp w P M) (h' : Hp w' P M) {b : Nat} {o : Obj} (ho : w'.heap[b]? = some o) (hb : w.heap.size ≤ b) : Hp w' P ((b, o) :: M) :=
  h'.take ho (fun hm => by have := h.ids_lt b hm; omega) (by
    cases hp : P.m b with
    | none => rfl
    | some o' => have := h.agr.lt hp; omega)

/-! ### what is owned is let be for good -/
def Pm.ins (P : Pm) (b : Nat) (o : Obj) : Pm := { P with m := fun k => if k = b then some o else P.m k }
theorem Hp.seal {w : World} {P : Pm} {M : Mm} {b : Nat} {o : Obj} (h : Hp w P ((b, o) :: M)) : Sub P (P.ins b o) ∧ Hp w (P.ins b o) M := by
  have hb := h.apart (b, o) (by simp)
  dsimp only at hb
  have hnd := h.nodup
  rw [List.map_cons, List.nodup_cons] at hnd
  refine ⟨⟨rfl, rfl, rfl, Nat.le_refl _, fun k o' hk => ?_⟩, ⟨h.agr.os, h.agr.tape, h.agr.output, h.agr.n, fun k o' hk => ?_⟩, fun x hx => h.own x (List.mem_cons_of_mem _ hx), hnd.2, fun x hx => ?_⟩
  · show (if k = b then some o else P.m k) = some o'
    rw [if_neg (fun e => by rw [e, hb] at hk; cases hk)]; exact hk
  · change (if k = b then some o else P.m k) = some o' at hk
    by_cases e : k = b
    · rw [if_pos e] at hk; cases hk; rw [e]; exact h.own (b, o) (by simp)
    · rw [if_neg e] at hk; exact h.agr.m k o' hk
  · show (if x.1 = b then some o else P.m x.1) = none
    rw [if_neg (fun e => hnd.1 (List.mem_map.2 ⟨x, hx, e⟩))]; exact h.apart x (List.mem_cons_of_mem _ hx)

/-- All that is not owned. -/
def Pm.all (w : World) (M : Mm) : Pm := ⟨w.os, w.tape, w.output, w.heap.size, fun b => if b ∈ ids M then none else w.heap[b]?⟩
theorem Hp.all {w : World} {P : Pm} {M : Mm} (h : Hp w P M) : Sub P (Pm.all w M) ∧ Hp w (Pm.all w M) M := by
  refine ⟨⟨h.agr.os, h.agr.tape, h.agr.output, h.agr.n, fun b o hb => ?_⟩, ⟨rfl, rfl, rfl, Nat.le_refl _, fun b o hb => ?_⟩, h.own, h.nodup, fun x hx => ?_⟩
  · show (if b ∈ ids M then none else w.heap[b]?) = some o
    rw [if_neg]
    · exact h.agr.m b o hb
    · intro hm
      obtain ⟨x, hx, rfl⟩ := List.mem_map.1 hm
      rw [h.apart x hx] at hb; cases hb
  · change (if b ∈ ids M then none else w.heap[b]?) = some o at hb
    by_cases e : b ∈ ids M
    · rw [if_pos e] at hb; cases hb
    · rw [if_neg e] at hb; exact hb
  · exact if_pos (List.mem_map.2 ⟨x, hx, rfl⟩)
theorem Pers.upd {w : World} {M : Mm} : Pers (Pm.all w M) (Upd (ids M) w) := by
  intro w' h
  refine ⟨h.os, h.tape, h.output, h.n, fun k hk hn => ?_⟩
  rw [Array.getElem?_eq_getElem hk]
  exact h.m k _ (by show (if k ∈ ids M then none else w.heap[k]?) = _; rw [if_neg hn, Array.getElem?_eq_getElem hk])

/-! ### begin and end -/
def Pm.start (w : World) : Pm := Pm.all w []
theorem Hp.start (w : World) : Hp w (Pm.start w) [] :=
  ⟨⟨rfl, rfl, rfl, Nat.le_refl _, fun b o hb => by simpa [Pm.start, Pm.all, ids] using hb⟩, by simp, by simp, by simp⟩
theorem Hp.to_below {W w : World} {P : Pm} {M : Mm} (h : Hp w P M) (s : Sub (Pm.start W) P) : Below W.heap.size W w := by
  have := (Pers.upd (w := W) (M := [])) w (h.agr.sub s)
  exact this.to_below (Nat.le_refl _) (by simp [ids])

end Go.Proofs.YtncjffkpkmjgkaaGreatDoor.Sg

/-! Mp -/
namespace Go.Proofs.YtncjffkpkmjgkaaGreatDoor.Sg
open Go.RowKit Er Go.Maps
open Go.WideElems (Fit rd rg pl)

abbrev Kv := List (Lit × Value)
def Rv (v : Value) : Option (DataW Value × List MemPlace) := some (.held v, [])
def kfind (m : Kv) (k : Lit) : Option Value := (m.find? (fun p => p.1.sameKey k)).map (·.2)
def kdel (m : Kv) (k : Lit) : Kv := m.filter (fun p => !p.1.sameKey k)
def kput (m : Kv) (k : Lit) (v : Value) : Kv := (k, v) :: kdel m k

structure MapD (D : DataW Value) (m : Kv) : Prop where
  keys : ∀ p, p ∈ m → WideAt.IsKeyLit p.1
  nodup : m.Pairwise (fun p q => p.1 ≠ q.1)
  size : Maps.size D = m.length
  at_ : ∀ k z, D.atKey k z = ((kfind m k).map DataW.held).getD z

theorem kfind_has {D : DataW Value} {m : Kv} (h : MapD D m) (k : Lit) : Maps.has D k = (kfind m k).isSome := by
  cases hf : kfind m k with
  | none => exact has_false_of_atKey (fun z => by rw [h.at_, hf]; rfl)
  | some v => exact has_true_of_atKey (y := .held v) (fun z => by rw [h.at_, hf]; rfl)

theorem kfind_del_same (m : Kv) (k : Lit) : kfind (kdel m k) k = none := by
  unfold kfind kdel
  rw [Option.map_eq_none_iff, List.find?_eq_none]
  intro p hp
  have := (List.mem_filter.1 hp).2
  simpa using this
theorem kfind_del_other (m : Kv) {k k' : Lit} (hne : k' ≠ k) : kfind (kdel m k) k' = kfind m k' := by
  unfold kfind kdel
  rw [find_filter_keep (fun (p : Lit × Value) h => by
    have := keep_other (H := Value) hne (p.1, .held p.2) h
    simpa using this)]
theorem kfind_put_same (m : Kv) {k : Lit} (hk : WideAt.IsKeyLit k) (v : Value) : kfind (kput m k v) k = some v := by
  unfold kfind kput
  rw [List.find?_cons_of_pos (by exact WideAt.sameKey_self hk)]
  rfl
theorem kfind_put_other (m : Kv) {k k' : Lit} (hne : k' ≠ k) (v : Value) : kfind (kput m k v) k' = kfind m k' := by
  have h1 : kfind (kput m k v) k' = kfind (kdel m k) k' := by
    unfold kput
    unfold kfind
    rw [List.find?_cons_of_neg (by rw [sameKey_ne (Ne.symm hne)]; simp)]
  rw [h1, kfind_del_other m hne]

theorem length_kdel (m : Kv) (k : Lit) (hn : m.Pairwise (fun p q => p.1 ≠ q.1)) : (kdel m k).length + (if (kfind m k).isSome then 1 else 0) = m.length := by
  induction m with
  | nil => rfl
  | cons p l ih =>
    obtain ⟨h1, h2⟩ := List.pairwise_cons.1 hn
    have ih := ih h2
    unfold kdel kfind at *
    by_cases e : p.1.sameKey k = true
    · have hl : ∀ q ∈ l, q.1.sameKey k = false := fun q hq => by
        cases hs : q.1.sameKey k with
        | false => rfl
        | true => exact absurd ((WideAt.sameKey_eq e).trans (WideAt.sameKey_eq hs).symm) (h1 q hq)
      rw [List.find?_cons_of_pos (p := fun (q : Lit × Value) => q.1.sameKey k) e, List.filter_cons_of_neg (by simp [e]), List.filter_eq_self.2 (fun q hq => by rw [hl q hq]; rfl)]
      simp
    · rw [List.find?_cons_of_neg (p := fun (q : Lit × Value) => q.1.sameKey k) e, List.filter_cons_of_pos (by simp [e])]
      simp only [List.length_cons]
      omega

theorem MapD.put {D : DataW Value} {m : Kv} (h : MapD D m) (ht : Tidy D) {k : Lit} (hk : WideAt.IsKeyLit k) (v : Value) : MapD (D.put k (.held v)) (kput m k v) := by
  refine ⟨fun p hp => ?_, ?_, ?_, fun k' z => ?_⟩
  · rcases List.mem_cons.1 hp with rfl | hp
    · exact hk
    · exact h.keys p (List.mem_filter.1 hp).1
  · refine List.pairwise_cons.2 ⟨fun q hq e => ?_, h.nodup.sublist List.filter_sublist⟩
    have := (List.mem_filter.1 hq).2
    dsimp only at e
    rw [← e, WideAt.sameKey_self hk] at this
    cases this
  · rw [size_put ht, kfind_has h, h.size]
    have := length_kdel m k h.nodup
    unfold kput
    rw [List.length_cons]
    split at this <;> rename_i hc <;> simp only [hc] <;> simp <;> omega
  · by_cases e : k' = k
    · subst e
      rw [atKey_put_same ht.isMap hk, kfind_put_same m hk]; rfl
    · rw [atKey_put_other e, h.at_, kfind_put_other m e]
theorem MapD.del {D : DataW Value} {m : Kv} (h : MapD D m) (ht : Tidy D) (k : Lit) : MapD (D.del k) (kdel m k) := by
  refine ⟨fun p hp => h.keys p (List.mem_filter.1 hp).1, h.nodup.sublist List.filter_sublist, ?_, fun k' z => ?_⟩
  · have := length_kdel m k h.nodup
    have h2 := size_del (k := k) ht
    rw [kfind_has h, h.size] at h2
    omega
  · by_cases e : k' = k
    · subst e
      rw [atKey_del_same, kfind_del_same]; rfl
    · rw [atKey_del_other e, h.at_, kfind_del_other m e]
theorem mapD_nil : MapD (.map []) [] := ⟨by simp, List.Pairwise.nil, rfl, fun k z => rfl⟩

/-- A map's block. -/
def MapO (K : TypeId) (o : Obj) (m : Kv) : Prop :=
  ∃ es clock, o = .map es clock ∧ Fit Tryz.prog K Rv es clock ∧ es.size ≤ m.length ∧ MapD (.map ((es.toList.map (rg Tryz.prog K Rv)).foldr DataW.insert [])) m

theorem MapO.owns {K : TypeId} {o : Obj} {m : Kv} (h : MapO K o m) {w : World} {b : Nat} (hb : w.heap[b]? = some o) : ∃ D, w.ownsMap Tryz.prog K Rv b m.length D ∧ MapD D m := by
  obtain ⟨es, clock, rfl, F, hs, hD⟩ := h
  exact ⟨_, ⟨es, clock, hb, F, hs, rfl⟩, hD⟩
theorem mapO_of {K : TypeId} {w : World} {b n : Nat} {D : DataW Value} {m : Kv} (h : w.ownsMap Tryz.prog K Rv b n D) (hD : MapD D m) : ∃ o, w.heap[b]? = some o ∧ MapO K o m := by
  obtain ⟨es, clock, hb, F, hs, rfl⟩ := h
  refine ⟨_, hb, es, clock, rfl, F, ?_, hD⟩
  have := hD.size
  rw [show Maps.size (DataW.map ((es.toList.map (rg Tryz.prog K Rv)).foldr DataW.insert [])) = ((es.toList.map (rg Tryz.prog K Rv)).foldr DataW.insert []).length from rfl, length_read] at this
  omega
theorem mapO_new (K : TypeId) : MapO K (.map #[] 0) [] :=
  ⟨#[], 0, rfl, ⟨by simp, MapKept.stamped_empty 0, by simp⟩, Nat.le_refl _, mapD_nil⟩

section
variable {w : World} {P : Pm} {M : Mm} {b : Nat} {o : Obj} {m : Kv} {t k e : TypeId} {z key : Value} {kl : Lit}

theorem Hp.look (h : Hp w P M) (hm : (b, o) ∈ M) (ho : MapO k o m) (K : Keyed Tryz.prog k) (ht : Tryz.prog.underlying t = some (.map k e)) (hz : (zeroValue e).run Tryz.prog w = .ok z w) (hkey : keyOf Tryz.prog k key = some kl) :
    (Instr.lookup t (.map (some b)) key false).run Tryz.prog w = .ok ((kfind m kl).getD z) w := by
  obtain ⟨D, hown, hD⟩ := ho.owns (h.own _ hm)
  obtain ⟨v, ps, hrun, hv⟩ := hown.lookup K ht hz (zd := .held z) (zp := []) rfl hkey
  rw [hrun]
  have h1 : DataW.held v = D.atKey kl (.held z) := by simpa [Rv] using congrArg (Option.map (·.1)) hv
  rw [hD.at_] at h1
  cases hf : kfind m kl with
  | none => rw [hf] at h1; simp only [Option.map_none, Option.getD_none] at h1; cases h1; rfl
  | some u => rw [hf] at h1; simp only [Option.map_some, Option.getD_some] at h1; cases h1; rfl

/-- What 'v, ok := m[k]' gives. -/
def lookRes (m : Kv) (kl : Lit) (z : Value) : Value := match kfind m kl with | some v => .tuple #[v, .bool true] | none => .tuple #[z, .bool false]

theorem Hp.lookOk (h : Hp w P M) (hm : (b, o) ∈ M) (ho : MapO k o m) (K : Keyed Tryz.prog k) (ht : Tryz.prog.underlying t = some (.map k e)) (hz : (zeroValue e).run Tryz.prog w = .ok z w) (hkey : keyOf Tryz.prog k key = some kl) :
    (Instr.lookup t (.map (some b)) key true).run Tryz.prog w = .ok (lookRes m kl z) w := by
  obtain ⟨D, hown, hD⟩ := ho.owns (h.own _ hm)
  obtain ⟨v, ps, hrun, hv⟩ := hown.look_ok K ht hz (zd := .held z) (zp := []) rfl hkey
  rw [hrun, kfind_has hD]
  have h1 : DataW.held v = D.atKey kl (.held z) := by simpa [Rv] using congrArg (Option.map (·.1)) hv
  rw [hD.at_] at h1
  unfold lookRes
  cases hf : kfind m kl with
  | none => rw [hf] at h1; simp only [Option.map_none, Option.getD_none] at h1; cases h1; rfl
  | some u => rw [hf] at h1; simp only [Option.map_some, Option.getD_some] at h1; cases h1; rfl

theorem Hp.len (h : Hp w P M) (hm : (b, o) ∈ M) (ho : MapO k o m) (ht : Tryz.prog.underlying t = some (.map k e)) (ty : TypeId) : (Builtin.len_ #[t] ty #[.map (some b)]).run Tryz.prog w = .ok (.int .i64 m.length) w := by
  obtain ⟨D, hown, hD⟩ := ho.owns (h.own _ hm)
  rw [hown.len ht, hD.size]

theorem Hp.grown1 {o' : Obj} (h : Hp w P ((b, o) :: M)) {w' : World} (hg : w.grownBy w' (some b)) (ho : w'.heap[b]? = some o') : Hp w' P ((b, o') :: M) :=
  h.setObj ⟨hg.os, hg.tape, hg.output, hg.size, fun k hk hn => hg.block k hk (fun e => hn (by cases e; simp))⟩ ho

theorem wpList_put_hp {ops : Array Oper} {rest : List Oper} {op : Oper} {a : Act} {Q : Exit → Act → World → Prop} (hg : op.guard = none) (mo x v : Operand) (t k e : TypeId) (hop : op.op = Op.mapUpdate t mo x v)
    (K : Keyed Tryz.prog k) (ht : Tryz.prog.underlying t = some (.map k e)) (b : Nat) (hm : a.eval mo = .map (some b)) (o : Obj) (m : Kv) (P : Pm) (M : Mm) (h : Hp w P ((b, o) :: M)) (ho : MapO k o m) (hn : m.length < 1099511627776)
    (key val : Value) (kl : Lit) (hx : a.eval x = key) (hv : a.eval v = val) (hkey : keyOf Tryz.prog k key = some kl)
    (hK : ∀ w' o', Hp w' P ((b, o') :: M) → MapO k o' (kput m kl val) → wpList Tryz.prog ops Q rest (a.put op.dst undef) w') :
    wpList Tryz.prog ops Q (op :: rest) a w := by
  obtain ⟨D, hown, hD⟩ := ho.owns (h.own _ (List.mem_cons_self ..))
  refine wpList_mapUpdate_own w hg mo x v t hop k e K ht Rv b m.length D hm hown (by unfold maxLen; omega) key val kl hx hv hkey (.held val) [] rfl fun w' h1 h2 => ?_
  obtain ⟨o', hb', ho'⟩ := mapO_of h1 (hD.put (hown.tidy K) (K.key hkey) val)
  exact hK w' o' (h.grown1 h2 hb') ho'

theorem wpList_del_hp {ops : Array Oper} {rest : List Oper} {op : Oper} {a : Act} {Q : Exit → Act → World → Prop} (hg : op.guard = none) (mo x : Operand) (t k e : TypeId) (hop : op.op = Op.call { callee := Callee.builtin Builtin.delete, args := #[mo, x], argTypes := #[t, k] })
    (K : Keyed Tryz.prog k) (ht : Tryz.prog.underlying t = some (.map k e)) (b : Nat) (hm : a.eval mo = .map (some b)) (o : Obj) (m : Kv) (P : Pm) (M : Mm) (h : Hp w P ((b, o) :: M)) (ho : MapO k o m)
    (key : Value) (kl : Lit) (hx : a.eval x = key) (hkey : keyOf Tryz.prog k key = some kl)
    (hK : ∀ w' o', Hp w' P ((b, o') :: M) → MapO k o' (kdel m kl) → wpList Tryz.prog ops Q rest (a.put op.dst (.tuple #[])) w') :
    wpList Tryz.prog ops Q (op :: rest) a w := by
  obtain ⟨D, hown, hD⟩ := ho.owns (h.own _ (List.mem_cons_self ..))
  refine wpList_delete_own w hg mo x t k hop e K ht Rv b m.length D hm hown key kl hx hkey fun w' h1 h2 => ?_
  obtain ⟨o', hb', ho'⟩ := mapO_of h1 (hD.del (hown.tidy K) kl)
  exact hK w' o' (h.grown1 h2.grown hb') ho'
end

end Go.Proofs.YtncjffkpkmjgkaaGreatDoor.Sg

/-! Rw -/
namespace Go.Proofs.YtncjffkpkmjgkaaGreatDoor.Sg
open Go.RowKit Er

/-- nil, or a block of one's own whose first cells are these. -/
def RowM (t : TypeId) (sz : Nat) (v : Value) (n : Nat) (xs : List Value) (A : Mm) : Prop :=
  xs.length = n * sz ∧ ((v = .slice none 0 0 ∧ n = 0 ∧ A = []) ∨
    ∃ g cap cur, v = .slice (some ⟨g, 0, none⟩) n cap ∧ n ≤ cap ∧ cap ≤ maxLen ∧ cur.size = cap * sz ∧ cur.toList.take (n * sz) = xs ∧ A = [(g, .cells cur t (0, 0))])

theorem rowM_nil (t : TypeId) (sz : Nat) : RowM t sz (.slice none 0 0) 0 [] [] := ⟨by simp, .inl ⟨rfl, rfl, rfl⟩⟩

theorem RowM.owns {w : World} {P : Pm} {t : TypeId} {sz n : Nat} {v : Value} {xs : List Value} {A F : Mm} (h : RowM t sz v n xs A) (hH : Hp w P (A ++ F)) : w.ownsRow 0 t sz v n xs := by
  refine ⟨h.1, ?_⟩
  rcases h.2 with ⟨hv, hn, -⟩ | ⟨g, cap, cur, hv, h1, h2, h3, h4, rfl⟩
  · exact .inl ⟨hv, hn⟩
  · exact .inr ⟨g, cap, cur, hv, Nat.zero_le _, hH.own (g, .cells cur t (0, 0)) (by simp), h1, h2, h3, h4⟩
theorem RowM.shape {t : TypeId} {sz n : Nat} {v : Value} {xs : List Value} {A : Mm} (h : RowM t sz v n xs A) : ∃ a c, v = .slice a n c := by
  rcases h.2 with ⟨rfl, rfl, -⟩ | ⟨g, cap, cur, rfl, -⟩
  · exact ⟨none, 0, rfl⟩
  · exact ⟨_, cap, rfl⟩
theorem RowM.block {t : TypeId} {sz n : Nat} {v : Value} {xs : List Value} {A : Mm} (h : RowM t sz v n xs A) : ids A = v.ownBlock.toList := by
  rcases h.2 with ⟨rfl, -, rfl⟩ | ⟨g, cap, cur, rfl, -, -, -, -, rfl⟩ <;> rfl

theorem Hp.outside {w : World} {P : Pm} {M : Mm} (h : Hp w P M) {b : Nat} (hb : w.heap.size ≤ b) : P.m b = none := by
  cases hp : P.m b with
  | none => rfl
  | some o' => have := h.agr.lt hp; omega

theorem owns_rowM {w : World} {base : Nat} {t : TypeId} {sz n : Nat} {v : Value} {xs : List Value} (h : w.ownsRow base t sz v n xs) : ∃ A, RowM t sz v n xs A ∧ ∀ x, x ∈ A → w.heap[x.1]? = some x.2 := by
  rcases h.2 with ⟨hv, hn⟩ | ⟨g, cap, cur, hv, -, hg, h1, h2, h3, h4⟩
  · exact ⟨[], ⟨h.1, .inl ⟨hv, hn, rfl⟩⟩, by simp⟩
  · exact ⟨[(g, .cells cur t (0, 0))], ⟨h.1, .inr ⟨g, cap, cur, hv, h1, h2, h3, h4, rfl⟩⟩, by simpa using hg⟩

theorem Hp.takeRow {w : World} {P : Pm} {F : Mm} (h : Hp w P F) {base : Nat} {t : TypeId} {sz n : Nat} {v : Value} {xs : List Value} (ho : w.ownsRow base t sz v n xs) (hb : ∀ b, v.ownBlock = some b → b ∉ ids F ∧ P.m b = .none) :
    ∃ A, RowM t sz v n xs A ∧ Hp w P (A ++ F) := by
  obtain ⟨A, hA, hw⟩ := owns_rowM ho
  refine ⟨A, hA, ?_⟩
  have hbl := hA.block
  rcases hA.2 with ⟨rfl, -, rfl⟩ | ⟨g, cap, cur, rfl, -, -, -, -, rfl⟩
  · exact h
  · obtain ⟨h1, h2⟩ := hb g rfl
    exact h.take (hw (g, .cells cur t (0, 0)) (by simp)) h1 h2

/-- Behind an append to a row of one's own. -/
theorem Hp.rowGrown {w w' : World} {P : Pm} {A F : Mm} (hH : Hp w P (A ++ F)) {t : TypeId} {sz n n' : Nat} {v v' : Value} {xs xs' : List Value} (hr : RowM t sz v n xs A) (hg : w.grownBy w' v.ownBlock) {base : Nat} (ho : w'.ownsRow base t sz v' n' xs')
    (hat : v'.ownBlock = v.ownBlock ∨ ∃ H, v'.ownBlock = some H ∧ w.heap.size ≤ H) : ∃ A', RowM t sz v' n' xs' A' ∧ Hp w' P (A' ++ F) := by
  have hF : Hp w' P F := hH.upd_drop (Upd.of_grown hg) (fun k hk => .inl (by rw [hr.block]; exact hk))
  refine hF.takeRow ho (fun b hb => ?_)
  rcases hat with e | ⟨H, e, hH'⟩
  · rw [e] at hb
    have hm : b ∈ ids A := by rw [hr.block, hb]; simp
    obtain ⟨x, hx, rfl⟩ := List.mem_map.1 hm
    refine ⟨fun hm2 => ?_, hH.apart x (List.mem_append_left _ hx)⟩
    have := hH.nodup
    rw [List.map_append] at this
    exact (List.nodup_append.1 this).2.2 x.1 hm x.1 hm2 rfl
  · rw [e] at hb
    cases hb
    exact ⟨fun hm => by have := (Hp.drop hH).ids_lt b hm; omega, hH.outside hH'⟩

/-- A new row that a call hands back. -/
theorem Hp.rowNew {w w' : World} {P : Pm} {F : Mm} (hH : Hp w P F) (hH' : Hp w' P F) {t : TypeId} {sz n : Nat} {v : Value} {xs : List Value} {B : Nat} (ho : w'.ownsRow B t sz v n xs) (hB : w.heap.size ≤ B) :
    ∃ A, RowM t sz v n xs A ∧ Hp w' P (A ++ F) := by
  refine hH'.takeRow ho (fun b hb => ?_)
  have := (World.ownsRow.lt ho b hb).1
  exact ⟨fun hm => by have := hH.ids_lt b hm; omega, hH.outside (by omega)⟩

/-- A row of bytes of one's own is let be for good. -/
theorem Hp.sealBytes {w : World} {P : Pm} {A F : Mm} (hH : Hp w P (A ++ F)) {v : Value} {n : Nat} {xs : List Nat} (hr : RowM 5 1 v n (bcells xs) A) :
    ∃ P', Sub P P' ∧ Hp w P' F ∧ Pers P' (fun w => SlB w v xs) := by
  obtain ⟨h1, h2⟩ := hr
  rw [bcells_len, Nat.mul_one] at h1
  subst h1
  rcases h2 with ⟨rfl, hn, rfl⟩ | ⟨g, cap, cur, rfl, hc, hc2, hsz, htk, rfl⟩
  · exact ⟨P, Sub.refl P, hH, fun w' _ => Or.inl ⟨rfl, List.eq_nil_of_length_eq_zero hn⟩⟩
  · obtain ⟨hs, hH2⟩ := Hp.seal (M := F) hH
    refine ⟨_, hs, hH2, fun w' hw => Or.inr (Or.inl ⟨g, 0, cap, rfl, hc, ?_, fun i x hx => ?_⟩)⟩
    · exact hw.lt (b := g) (o := .cells cur 5 (0, 0)) (by simp [Pm.ins])
    · have hg := hw.m g (.cells cur 5 (0, 0)) (by simp [Pm.ins])
      rw [Nat.zero_add]
      have hi : (bcells xs)[i]? = some (.int .u8 (x : Int)) := bcells_get xs i x hx
      rw [← htk, List.getElem?_take] at hi
      split at hi
      · simp [World.cell?, hg]
        simpa using hi
      · cases hi

end Go.Proofs.YtncjffkpkmjgkaaGreatDoor.Sg

/-! Rv -/
namespace Go.Proofs.YtncjffkpkmjgkaaGreatDoor.Sg
open Go.RowKit Er

section
variable {w : World} {P : Pm} {A F : Mm} {o : Oper} {a : Act} {Q : Exit → Act → World → Prop} {ops : Array Oper}

theorem step_push_hp {K : Act → World → Prop} {E : Prop} (hgd : o.guard = none) (s x : Operand) (t : TypeId) (ho : o.op = .call { callee := .builtin .append, args := #[s, x], argTypes := #[t, t] })
    (e : TypeId) (z : Value) (size bytes : Nat) (ht : Tryz.prog.underlying t = some (.slice e)) (hinfo : (Tryz.prog.info? e).map (fun i => (i.zero, i.size, i.bytes)) = some (some z, size, bytes)) (hzs : z.cells.size = size) (hsz : 0 < size)
    (v : Value) (n : Nat) (xs : List Value) (hs : a.eval s = v) (hH : Hp w P (A ++ F)) (hr : RowM e size v n xs A) (news : Array Value) (hx : a.eval x = .slice (some ⟨w.heap.size, 0, none⟩) 1 1) (hl : news.size = size)
    (h1 : ∀ u ∈ news, u.oneCell' = true) (hn : n ≤ 1000000000) (hb : bytes ≤ 10000)
    (h : ∀ g cap w' A', RowM e size (.slice (some ⟨g, 0, none⟩) (n + 1) cap) (n + 1) (xs ++ news.toList) A' → Hp w' P (A' ++ F) → K (a.put o.dst (.slice (some ⟨g, 0, none⟩) (n + 1) cap)) w') :
    if Region.wanted o (yielded ops a.tmps) = true then Oper.wp Tryz.prog o a (w.alloc (.cells news e)) K Q else E := by
  obtain ⟨i0, hi, hz0, hz1, hz2⟩ := info_parts hinfo
  have hbb : (n + 1) * bytes ≤ 140737488355328 := Nat.le_trans (Nat.mul_le_mul (show n + 1 ≤ 1000000001 by omega) hb) (by omega)
  refine step_append_lies (w := w.alloc (.cells news e)) hgd s x t ho 0 e i0 z size bytes ht hi hz0 hz1 hz2 hzs hsz v n xs hs ((hr.owns hH).alloc _) ⟨w.heap.size, 0, none⟩ 1 1 news.toList hx (by simp [hl])
    (World.news_of_block (cs := news) (t := e) (fr := (0, 0)) (heap_alloc_new w _)) (by simpa using h1) (by omega) (by unfold maxLen; omega) hbb (Nat.zero_le _) (w.heap.size + 1) (by simp) ?_
  intro g cap w' hown hg hat _
  have hH2 : Hp (w.alloc (.cells news e)) P (A ++ F) := (hH.alloc _).tail
  obtain ⟨A', hr', hH'⟩ := hH2.rowGrown hr hg hown (by
    rcases hat with e1 | e1
    · exact .inl e1.symm
    · exact .inr ⟨w.heap.size + 1, by rw [e1]; rfl, by simp⟩)
  exact h g cap w' A' hr' hH'

theorem wpList_push_hp {rest : List Oper} (hgd : o.guard = none) (s x : Operand) (t : TypeId) (ho : o.op = .call { callee := .builtin .append, args := #[s, x], argTypes := #[t, t] })
    (e : TypeId) (z : Value) (size bytes : Nat) (ht : Tryz.prog.underlying t = some (.slice e)) (hinfo : (Tryz.prog.info? e).map (fun i => (i.zero, i.size, i.bytes)) = some (some z, size, bytes)) (hzs : z.cells.size = size) (hsz : 0 < size)
    (v : Value) (n : Nat) (xs : List Value) (hs : a.eval s = v) (hH : Hp w P (A ++ F)) (hr : RowM e size v n xs A) (news : Array Value) (hx : a.eval x = .slice (some ⟨w.heap.size, 0, none⟩) 1 1) (hl : news.size = size)
    (h1 : ∀ u ∈ news, u.oneCell' = true) (hn : n ≤ 1000000000) (hb : bytes ≤ 10000)
    (h : ∀ g cap w' A', RowM e size (.slice (some ⟨g, 0, none⟩) (n + 1) cap) (n + 1) (xs ++ news.toList) A' → Hp w' P (A' ++ F) → wpList Tryz.prog ops Q rest (a.put o.dst (.slice (some ⟨g, 0, none⟩) (n + 1) cap)) w') :
    wpList Tryz.prog ops Q (o :: rest) a (w.alloc (.cells news e)) := by
  obtain ⟨i0, hi, hz0, hz1, hz2⟩ := info_parts hinfo
  have hbb : (n + 1) * bytes ≤ 140737488355328 := Nat.le_trans (Nat.mul_le_mul (show n + 1 ≤ 1000000001 by omega) hb) (by omega)
  refine wpList_append_lies (w.alloc (.cells news e)) hgd s x t ho 0 e i0 z size bytes ht hi hz0 hz1 hz2 hzs hsz v n xs hs ((hr.owns hH).alloc _) ⟨w.heap.size, 0, none⟩ 1 1 news.toList hx (by simp [hl])
    (World.news_of_block (cs := news) (t := e) (fr := (0, 0)) (heap_alloc_new w _)) (by simpa using h1) (by omega) (by unfold maxLen; omega) hbb (Nat.zero_le _) (w.heap.size + 1) (by simp) ?_
  intro g cap w' hown hg hat _
  have hH2 : Hp (w.alloc (.cells news e)) P (A ++ F) := (hH.alloc _).tail
  obtain ⟨A', hr', hH'⟩ := hH2.rowGrown hr hg hown (by
    rcases hat with e1 | e1
    · exact .inl e1.symm
    · exact .inr ⟨w.heap.size + 1, by rw [e1]; rfl, by simp⟩)
  exact h g cap w' A' hr' hH'
end

end Go.Proofs.YtncjffkpkmjgkaaGreatDoor.Sg

/-! Nv -/
namespace Go.Proofs.YtncjffkpkmjgkaaGreatDoor.Sg
open Go.RowKit Er

def nchar (c : UInt8) : Bool := decide (97 ≤ c.toNat ∧ c.toNat ≤ 122) || decide (48 ≤ c.toNat ∧ c.toNat ≤ 57) || c == 46 || c == 45 || c == 95
/-- A name that may be. -/
def vname (s : List UInt8) : Bool := decide (1 ≤ s.length) && decide (s.length ≤ 64) && s.all nchar

theorem nsmall_yes (c : Nat) (h1 : 97 ≤ c) (h2 : c ≤ 122) (w : World) : Calls Tryz.prog 99 #[.int .u8 c] w fun e w' => e = .returned (.bool true) ∧ w = w' := by
  refine (nsmall_any c w).mono ?_
  rintro e w' ⟨rfl, rfl⟩
  exact ⟨by simp [h1, h2], rfl⟩
theorem nsmall_no (c : Nat) (h : ¬ (97 ≤ c ∧ c ≤ 122)) (w : World) : Calls Tryz.prog 99 #[.int .u8 c] w fun e w' => e = .returned (.bool false) ∧ w = w' := by
  refine (nsmall_any c w).mono ?_
  rintro e w' ⟨rfl, rfl⟩
  exact ⟨by rw [decide_eq_false h], rfl⟩
theorem nchar_cases (c : UInt8) (h : nchar c = true) : (97 ≤ c.toNat ∧ c.toNat ≤ 122) ∨ (48 ≤ c.toNat ∧ c.toNat ≤ 57) ∨ c.toNat = 46 ∨ c.toNat = 45 ∨ c.toNat = 95 := by
  unfold nchar at h
  simp only [Bool.or_eq_true, decide_eq_true_eq, beq_iff_eq] at h
  rcases h with (((h | h) | h) | h) | h
  · exact .inl h
  · exact .inr (.inl h)
  · subst h; exact .inr (.inr (.inl rfl))
  · subst h; exact .inr (.inr (.inr (.inl rfl)))
  · subst h; exact .inr (.inr (.inr (.inr rfl)))

set_option maxRecDepth 100000 in
set_option maxHeartbeats 800000 in
theorem valid_yes (s : List UInt8) (h1 : 1 ≤ s.length) (h2 : s.length ≤ 64) (h3 : ∀ (i : Nat) (h : i < s.length), nchar s[i] = true) (w : World) :
    Calls Tryz.prog 47 #[.string ⟨s.toArray⟩] w fun e w' => e = .returned (.bool true) ∧ w = w' := by
  have hsz : (⟨s.toArray⟩ : ByteArray).size = s.length := by simp [ByteArray.size]
  have i1 : ¬ (s.length : Int) < 1 := by omega
  have i2 : ¬ (64 : Int) < (s.length : Int) := by omega
  go_enter Tryz.func47, Tryz.ntmps47
  go_wp2_with fail
  go_loopg [15] s.length (fun r i wr => ∃ k : Nat, k + r = s.length ∧ i = .int .i64 k ∧ w = wr)
  case atStart => exact ⟨0, by omega, rfl, rfl⟩
  case round =>
    obtain ⟨k, hk, rfl, rfl⟩ := hrel
    by_cases hlt : k < s.length
    · have hc := h3 k hlt
      have hlt2 : k < s.toArray.size := by simpa using hlt
      obtain ⟨gk, rfl⟩ : ∃ x, gk = x + 1 := ⟨gk - 1, by omega⟩
      obtain ⟨c, hcc⟩ : ∃ c, c = (⟨s.toArray⟩ : ByteArray)[k].toNat := ⟨_, rfl⟩
      have hcs := nchar_cases _ hc
      rw [show s[k].toNat = c from hcc.symm] at hcs
      have HCC := Lib.hid hcc
      clear hcc hc
      go_wp2_with fail
      rw [← HCC.out]
      rcases hcs with ⟨j1, j2⟩ | ⟨j1, j2⟩ | rfl | rfl | rfl
      · refine (nsmall_yes c j1 j2 _).mono ?_
        rintro e w' ⟨rfl, rfl⟩
        go_wp2_with fail
        go_roundg gk
        case measure => omega
        case rel => exact ⟨k + 1, by omega, by go_num, rfl⟩
      · refine (nsmall_no c (by omega) _).mono ?_
        rintro e w' ⟨rfl, rfl⟩
        have j3 : ¬ ((c : Int) < 48) := by omega
        have j4 : ¬ ((57 : Int) < (c : Int)) := by omega
        have j5 : ¬ c < 48 := by omega
        have j6 : ¬ 57 < c := by omega
        go_wp2_with fail
        go_roundg gk
        case measure => omega
        case rel => exact ⟨k + 1, by omega, by go_num, rfl⟩
      all_goals
        refine (nsmall_no _ (by omega) _).mono ?_
        rintro e w' ⟨rfl, rfl⟩
        go_wp2_with fail
        go_roundg gk
        case measure => omega
        case rel => exact ⟨k + 1, by omega, by go_num, rfl⟩
    · obtain rfl : k = s.length := by omega
      go_wp2_with fail
      go_ret
      exact ⟨rfl, rfl⟩

end Go.Proofs.YtncjffkpkmjgkaaGreatDoor.Sg
