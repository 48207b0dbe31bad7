/- New bytes are there for good; append of one element, and what has turned by it. A row of files, sorted by a closure that reads them; slices.Contains. A disk behind a crash, in plain words. disk.Crash. A log's disk behind a crash: plain. -/
import Derived.Test.YtncjffkpkmjgkaaGreatDoorMn
import Derived.Test.YtncjffkpkmjgkaaGreatDoorFs
import Derived.Test.YtncjffkpkmjgkaaGreatDoorMc
import Derived.LaidEqlPtr

/-! Nb -/
namespace Go.Proofs.YtncjffkpkmjgkaaGreatDoor.Sg
open Go.RowKit Er Go.Maps

theorem Hp.newBytes {w w' : World} {P : Pm} {F : Mm} (hH : Hp w P F) {v : Value} {n : Nat} {xs : List Nat} (hb : Below w.heap.size w w') (ho : w'.ownsRow w.heap.size 5 1 v n (bcells xs)) :
    ∃ P', Sub P P' ∧ Hp w' P' F ∧ Pers P' (fun w => SlB w v xs) := by
  obtain ⟨A, hr, hH'⟩ := hH.rowNew (hH.below hb (Nat.le_refl _)) ho (Nat.le_refl _)
  exact hH'.sealBytes hr

theorem infoFp : (Tryz.prog.info? 86).map (fun i => (i.zero, i.size, i.bytes)) = some (some (.pointer none), 1, 8) := by kernel_rfl
/-- append of one element, and what has turned by it. -/
theorem wpList_push_g {w : World} {P : Pm} {A F : Mm} {o : Oper} {a : Act} {Q : Exit → Act → World → Prop} {ops : Array Oper} {rest : List Oper} (hgd : o.guard = none) (s x : Operand) (t : TypeId) (ho : o.op = .call { callee := .builtin .append, args := #[s, x], argTypes := #[t, t] })
    (e : TypeId) (z : Value) (size bytes : Nat) (ht : Tryz.prog.underlying t = some (.slice e)) (hinfo : (Tryz.prog.info? e).map (fun i => (i.zero, i.size, i.bytes)) = some (some z, size, bytes)) (hzs : z.cells.size = size) (hsz : 0 < size)
    (v : Value) (n : Nat) (xs : List Value) (hs : a.eval s = v) (hH : Hp w P (A ++ F)) (hr : RowM e size v n xs A) (news : Array Value) (hx : a.eval x = .slice (some ⟨w.heap.size, 0, none⟩) 1 1) (hl : news.size = size)
    (h1 : ∀ u ∈ news, u.oneCell' = true) (hn : n ≤ 1000000000) (hb : bytes ≤ 10000)
    (h : ∀ g cap w' A', RowM e size (.slice (some ⟨g, 0, none⟩) (n + 1) cap) (n + 1) (xs ++ news.toList) A' → Hp w' P (A' ++ F) → (w.alloc (.cells news e)).grownBy w' v.ownBlock → wpList Tryz.prog ops Q rest (a.put o.dst (.slice (some ⟨g, 0, none⟩) (n + 1) cap)) w') :
    wpList Tryz.prog ops Q (o :: rest) a (w.alloc (.cells news e)) := by
  obtain ⟨i0, hi, hz0, hz1, hz2⟩ := info_parts hinfo
  have hbb : (n + 1) * bytes ≤ 140737488355328 := Nat.le_trans (Nat.mul_le_mul (show n + 1 ≤ 1000000001 by omega) hb) (by omega)
  refine wpList_append_lies (w.alloc (.cells news e)) hgd s x t ho 0 e i0 z size bytes ht hi hz0 hz1 hz2 hzs hsz v n xs hs ((hr.owns hH).alloc _) ⟨w.heap.size, 0, none⟩ 1 1 news.toList hx (by simp [hl])
    (World.news_of_block (cs := news) (t := e) (fr := (0, 0)) (heap_alloc_new w _)) (by simpa using h1) (by omega) (by unfold maxLen; omega) hbb (Nat.zero_le _) (w.heap.size + 1) (by simp) ?_
  intro g cap w' hown hg hat _
  have hH2 : Hp (w.alloc (.cells news e)) P (A ++ F) := (hH.alloc _).tail
  obtain ⟨A', hr', hH'⟩ := hH2.rowGrown hr hg hown (by
    rcases hat with e1 | e1
    · exact .inl e1.symm
    · exact .inr ⟨w.heap.size + 1, by rw [e1]; rfl, by simp⟩)
  exact h g cap w' A' hr' hH' hg

end Go.Proofs.YtncjffkpkmjgkaaGreatDoor.Sg

/-! Ya -/
namespace Go.Proofs.YtncjffkpkmjgkaaGreatDoor.Sg
open Go.RowKit Er Go.Maps Go.Sort Go.Shelf

section
variable {P : Pm} {A M F : Mm} {w : World}

theorem sortW_hp {α : Type} [Inhabited α] (enc : α → Value) {g : Nat} {c : Array Value} {t : TypeId} (hH : Hp w P ((g, .cells c t (0, 0)) :: M)) (n : Nat) (d : Array α) (os : Array Obj) :
    Hp (sortWorld enc w g 0 n d os) P ((g, .cells (putCells enc 0 d c) t (0, 0)) :: M) := by
  have hg := hH.own (g, .cells c t (0, 0)) List.mem_cons_self
  have hgl := hH.lt (x := (g, .cells c t (0, 0))) List.mem_cons_self
  dsimp only at hg hgl
  have hsz : (putRow enc (Sort.ahead w n) g 0 d).heap.size = w.heap.size := by simp [putRow, mapBlock, Sort.ahead]
  refine hH.setObj ⟨rfl, rfl, rfl, ?_, fun k hk hn => ?_⟩ ?_
  · unfold sortWorld; rw [size_grow, hsz]; omega
  · unfold sortWorld
    rw [heap_grow_old _ _ (by rw [hsz]; exact hk)]
    have hne : g ≠ k := fun e => hn (by rw [e]; simp)
    simp [putRow, mapBlock, Sort.ahead, Array.getElem?_modify, hne]
  · unfold sortWorld
    rw [heap_grow_old _ _ (by rw [hsz]; exact hgl)]
    simp [putRow, mapBlock, Sort.ahead, Array.getElem?_modify, hg, onCells]

set_option maxRecDepth 100000 in
theorem cmpfn_ok (a b : Nat) (x y : Nat) (w : World) (ha : w.cell? ⟨a, 0, none⟩ = some (.int .i64 x)) (hb : w.cell? ⟨b, 0, none⟩ = some (.int .i64 y)) (hx : x ≤ 1000000000) (hy : y ≤ 1000000000) :
    Calls Tryz.prog 76 #[ptr a, ptr b] w fun e w' => e = .returned (.int .i64 ((x : Int) - (y : Int))) ∧ ∃ q, w' = w.drewN q := by
  have hw : IntKind.i64.wrap ((x : Int) - (y : Int)) = (x : Int) - (y : Int) := IntWalk.i64_in _ (by omega)
  go_enter Tryz.func76, Tryz.ntmps76
  go_wp2_with fail
  go_quiet (fail)
  go_wp2_with fail
  go_ret
  exact ⟨rfl, _, rfl⟩

theorem putCells_take {α : Type} [Inhabited α] (enc : α → Value) (d : Array α) (c : Array Value) (h : d.size ≤ c.size) : (putCells enc 0 d c).toList.take d.size = d.toList.map enc := by
  apply List.ext_getElem?
  intro i
  rw [List.getElem?_take]
  by_cases hi : i < d.size
  · have hic : i < c.size := by omega
    rw [if_pos hi]
    simp [putCells, hi, hic]
  · rw [if_neg hi, List.getElem?_eq_none (by simp; omega)]

/-- A row of files, sorted: the same files. -/
theorem sortfiles_hp (L : List Fl) (v : Value) (hr : RowM 86 1 v L.length (L.map fun f => ptr f.blk) A) (hf : ∀ f, f ∈ L → (∃ x, (f.blk, Obj.cells (fcells f x) 89 (0, 0)) ∈ M) ∧ f.id ≤ 1000000000) (hl : L.length ≤ 1000000) (hH : Hp w P (A ++ M)) :
    Calls Tryz.prog 75 #[v, cmpFn] w fun e w' => e = .returned (.tuple #[]) ∧ ∃ (L' : List Fl) (A' : Mm), L'.Perm L ∧ RowM 86 1 v L'.length (L'.map fun f => ptr f.blk) A' ∧ Hp w' P (A' ++ M) := by
  obtain ⟨h1, h2⟩ := hr
  rcases h2 with ⟨rfl, hn, rfl⟩ | ⟨g, cap, cur, rfl, hc1, hc2, hc3, hc4, rfl⟩
  · have hL : L = [] := List.eq_nil_of_length_eq_zero hn
    subst hL
    have hcon := AnyF.slices_SortFunc_none (P := Tryz.prog) (ρ := Tryz.sortF_ren) { Tryz.sortF with } none 0 cmpFn w
    refine Calls.mono hcon ?_
    rintro e w' ⟨rfl, rfl⟩
    exact ⟨rfl, [], [], List.Perm.refl _, ⟨rfl, .inl ⟨rfl, rfl, rfl⟩⟩, hH⟩
  · by_cases hL0 : L = []
    · subst hL0
      have hcon := AnyF.slices_SortFunc_none (P := Tryz.prog) (ρ := Tryz.sortF_ren) { Tryz.sortF with } (some ⟨g, 0, none⟩) cap cmpFn w
      refine Calls.mono hcon ?_
      rintro e w' ⟨rfl, rfl⟩
      exact ⟨rfl, [], _, List.Perm.refl _, ⟨rfl, .inr ⟨g, cap, cur, rfl, hc1, hc2, hc3, hc4, rfl⟩⟩, hH⟩
    · obtain ⟨f0, hf0⟩ := List.exists_mem_of_ne_nil L hL0
      let α : Type := { f : Fl // f ∈ L }
      letI inh : Inhabited α := ⟨⟨f0, hf0⟩⟩
      let enc : α → Value := fun x => ptr x.1.blk
      let d : Array α := L.attach.toArray
      have hds : d.size = L.length := by show L.attach.toArray.size = _; rw [List.size_toArray, List.length_attach]
      have hdm : d.toList.map enc = L.map fun f => ptr f.blk := by
        show L.attach.toArray.toList.map (fun x : { f : Fl // f ∈ L } => ptr x.1.blk) = _
        rw [List.toList_toArray]
        exact List.attach_map_val (f := fun f : Fl => ptr f.blk)
      have hholds : Holds enc w g 0 d := fun j hj => by
        have hc := hH.own (g, .cells cur 86 (0, 0)) (by simp)
        dsimp only at hc
        refine ⟨?_, by simp [World.frozen?, hc]⟩
        have e1 : (cur.toList.take (L.length * 1))[j]? = some (enc d[j]!) := by
          rw [hc4, ← hdm, List.getElem?_map, getElem!_pos d j hj, Array.getElem?_toList, Array.getElem?_eq_getElem hj]
          rfl
        rw [List.getElem?_take] at e1
        split at e1
        · rw [Nat.zero_add]
          simp only [World.cell?, hc]
          simpa using e1
        · cases e1
      have hgl := hH.lt (x := (g, .cells cur 86 (0, 0))) (by simp)
      dsimp only at hgl
      let cf : α → α → Int := fun x y => (x.1.id : Int) - (y.1.id : Int)
      have hlt : ∀ x y : α, ltOf cf x y = decide (x.1.id < y.1.id) := fun x y => by
        unfold ltOf
        exact decide_eq_decide.2 (by show (x.1.id : Int) - (y.1.id : Int) < 0 ↔ _; omega)
      have hO : SWO (ltOf cf) := ⟨fun x => by rw [hlt]; simp, fun x y z h1 h2 => by rw [hlt] at *; simp at *; omega, fun x y z h1 h2 => by rw [hlt] at *; simp at *; omega⟩
      have eg : ∀ args w, (callFunc 76 args).run Tryz.prog w = .ok (.enter 76 args) w := enters_of Tryz.func76 (by kernel_rfl) rfl
      have hcmp : CmpLays1 Tryz.prog 76 #[] enc cf g 0 d.size w := fun m os dk hs x y => by
        have hHs := sortW_hp enc (show Hp w P ((g, .cells cur 86 (0, 0)) :: M) from hH) m dk os
        obtain ⟨⟨vx, hx⟩, hxi⟩ := hf x.1 x.2
        obtain ⟨⟨vy, hy⟩, hyi⟩ := hf y.1 y.2
        have cx := hHs.cell (List.mem_cons_of_mem _ hx) (i := 0) rfl
        have cy := hHs.cell (List.mem_cons_of_mem _ hy) (i := 0) rfl
        refine (cmpfn_ok x.1.blk y.1.blk x.1.id y.1.id _ cx cy hxi hyi).mono ?_
        rintro e w' ⟨rfl, q, rfl⟩
        exact ⟨rfl, q, #[], by rw [grow_empty]⟩
      have hcon := Any.slices_SortFunc (P := Tryz.prog) (ρ := Tryz.sortF_ren) Tryz.sortF enc (fun _ => rfl) cf hO 76 #[] g 0 cap d w eg hcmp hholds hgl (by omega)
      rw [hds] at hcon
      refine Calls.mono hcon ?_
      rintro e w' ⟨rfl, d', n, os, ⟨p1, -, p3⟩, -, rfl⟩
      have hd's : d'.size = L.length := p1.trans hds
      have hperm : (d'.toList.map Subtype.val).Perm L := by
        have e1 : (d'.extract 0 L.length).toList = d'.toList := by rw [← hd's]; simp
        have e2 : (d.extract 0 L.length).toList = d.toList := by rw [← hds]; simp
        rw [e1, e2] at p3
        have h := p3.map Subtype.val
        have e3 : d.toList.map Subtype.val = L := by simp [d]
        rw [e3] at h
        exact h
      have hHs := sortW_hp enc (show Hp w P ((g, .cells cur 86 (0, 0)) :: M) from hH) n d' os
      refine ⟨rfl, d'.toList.map Subtype.val, [(g, Obj.cells (putCells enc 0 d' cur) 86 (0, 0))], hperm, ?_, hHs⟩
      have hll : (d'.toList.map Subtype.val).length = L.length := hperm.length_eq
      refine ⟨by simp, .inr ⟨g, cap, putCells enc 0 d' cur, by rw [hll], by rw [hll]; exact hc1, hc2, by rw [← hc3]; simp [putCells], ?_, rfl⟩⟩
      rw [hll, Nat.mul_one, ← hd's, putCells_take enc d' cur (by rw [hd's, hc3]; omega), List.map_map]
      rfl
end

/-! ### slices.Contains -/
theorem infoFl2 : (Tryz.prog.info? 89).map (fun i => i.size) = some 3 := by kernel_rfl
theorem ptr_other (w : World) (x b : Nat) (hne : x ≠ b) (hx : ∃ c t, w.heap[x]? = some (.cells c t (0, 0))) (hb : ∃ c t, w.heap[b]? = some (.cells c t (0, 0))) :
    (Go.binOp .eql 86 (ptr x) (ptr b)).run Tryz.prog w = .ok (.bool false) w := by
  obtain ⟨cx, tx, hx⟩ := hx
  obtain ⟨cb, tb, hb⟩ := hb
  have hi := infoFl2
  cases hj : Tryz.prog.info? 89 with
  | none => rw [hj] at hi; cases hi
  | some j =>
    rw [hj] at hi
    simp only [Option.map_some, Option.some.injEq] at hi
    exact run_eql_ptr_other w Tryz.underlying86 hj (by omega) (by intro e; cases e; exact hne rfl) hx hb
/-- A row of files that is read. -/
def PtrsR (w : World) (v : Value) (bs : List Nat) : Prop := ∃ a c, v = .slice a bs.length c ∧ ∀ (k : Nat) b, bs[k]? = some b → ∃ g, a = some ⟨g, 0, none⟩ ∧ w.cell? ⟨g, k, none⟩ = some (ptr b)
set_option maxRecDepth 100000 in
set_option maxHeartbeats 1000000 in
theorem contains_no (w : World) (v : Value) (bs : List Nat) (hv : PtrsR w v bs) (b : Nat) (hb : b ∉ bs) (ho : ∀ x, x ∈ b :: bs → ∃ c t, w.heap[x]? = some (.cells c t (0, 0))) (hl : bs.length ≤ 1000000) :
    Calls Tryz.prog 74 #[v, ptr b] w fun e w' => e = .returned (.bool false) ∧ w' = w := by
  obtain ⟨a, c, rfl, hc⟩ := hv
  obtain ⟨n, hn⟩ : ∃ n, bs.length = n := ⟨_, rfl⟩
  rw [hn] at hl ⊢
  have HC := Lib.hid hc
  have HB := Lib.hid hb
  have HN := Lib.hid hn
  have HO := Lib.hid ho
  clear hc hb hn ho
  have hi : Calls Tryz.prog 115 #[.slice a n c, ptr b] w fun e w' => e = .returned (.int .i64 (-1)) ∧ w' = w := by
    go_enter Tryz.func115, Tryz.ntmps115
    go_wp2_with fail
    go_loopg [8] n (fun m vi wr => ∃ k : Nat, k + m = n ∧ vi = .int .i64 k ∧ wr = w)
    case atStart => exact ⟨0, by omega, rfl, rfl⟩
    case round =>
      obtain ⟨k, hk, rfl, rfl⟩ := hrel
      by_cases hlt : k < n
      · obtain ⟨gj, rfl⟩ : ∃ x, gk = x + 1 := ⟨gk - 1, by omega⟩
        have hkl : k < bs.length := by rw [HN.out]; exact hlt
        obtain ⟨g, rfl, hg⟩ := HC.out k _ (List.getElem?_eq_getElem hkl)
        obtain ⟨x, hx⟩ : ∃ x, bs[k] = x := ⟨_, rfl⟩
        rw [hx] at hg
        have hne : x ≠ b := fun e => HB.out (by rw [← e, ← hx]; exact List.getElem_mem hkl)
        have hq2 := ptr_other wr b x (fun e => hne e.symm) (HO.out b List.mem_cons_self) (HO.out x (by rw [← hx]; exact List.mem_cons_of_mem _ (List.getElem_mem hkl)))
        have j1 : (k : Int) < (n : Int) := by omega
        have j2 : (0 : Int) ≤ (k : Int) := by omega
        clear hx hne
        go_wp2_with fail
        go_roundg gj
        case measure => omega
        case rel => exact ⟨k + 1, by omega, by simp, rfl⟩
      · have hkn : k = n := by omega
        go_wp2_with fail
        go_ret
        exact ⟨rfl, rfl⟩
  go_enter Tryz.func74, Tryz.ntmps74
  go_wp2_with fail
  refine hi.mono ?_
  rintro e w1 ⟨rfl, rfl⟩
  go_wp2_with fail
  go_ret
  exact ⟨rfl, rfl⟩
end Go.Proofs.YtncjffkpkmjgkaaGreatDoor.Sg

/-! Yb -/
namespace Go.Proofs.YtncjffkpkmjgkaaGreatDoor.Sg
open Go.RowKit Er Go.Maps

/-- The names that are kept, with so many of the changes. -/
def Dk.keptA (D : Dk) (q : Nat) : List (Nam × Nat) := (D.ch.take q).foldl chg D.kp
def cutF (p : Nat → Nat) (bs : List Nat) (f : Fl) : Fl := if f.blk ∈ bs then { f with b := f.b.take (f.s + p f.blk), s := f.s + p f.blk } else f
/-- A disk behind a crash: of each file that is kept stand the kept bytes, and some more. -/
def Dk.crash (D : Dk) (q : Nat) (p : Nat → Nat) : Dk := { D with nm := D.keptA q, kp := D.keptA q, ch := [], fl := D.fl.map (cutF p ((D.keptA q).map (·.2))), arm := 0, down := false }

theorem cutF_blk (p : Nat → Nat) (bs : List Nat) (f : Fl) : (cutF p bs f).blk = f.blk := by unfold cutF; split <;> rfl
theorem cutF_none (p : Nat → Nat) (f : Fl) : cutF p [] f = f := by unfold cutF; rw [if_neg (by simp)]
theorem cutF_map_blk (p : Nat → Nat) (bs : List Nat) (l : List Fl) : (l.map (cutF p bs)).map (·.blk) = l.map (·.blk) := by
  rw [List.map_map]
  exact List.map_congr_left (fun f _ => cutF_blk p bs f)
/-- One file more. -/
theorem cutF_step (p : Nat → Nat) (bs : List Nat) (l1 l2 : List Fl) (f : Fl) (hnd : ((l1 ++ f :: l2).map (·.blk)).Nodup) (hf : f.blk ∉ bs) (k : Nat) :
    (l1 ++ f :: l2).map (cutF p bs) = l1.map (cutF p bs) ++ f :: l2.map (cutF p bs) ∧
    (l1 ++ f :: l2).map (cutF (fun b => if b = f.blk then k else p b) (bs ++ [f.blk])) = l1.map (cutF p bs) ++ { f with b := f.b.take (f.s + k), s := f.s + k } :: l2.map (cutF p bs) := by
  rw [List.map_append, List.map_cons, List.nodup_append] at hnd
  obtain ⟨-, h2, h3⟩ := hnd
  rw [List.nodup_cons] at h2
  have hne : ∀ g, g ∈ l1 ∨ g ∈ l2 → g.blk ≠ f.blk := by
    intro g hg e
    rcases hg with hg | hg
    · exact h3 g.blk (List.mem_map.2 ⟨g, hg, rfl⟩) f.blk (by simp) e
    · exact h2.1 (List.mem_map.2 ⟨g, hg, e⟩)
  have hc : ∀ g, g ∈ l1 ∨ g ∈ l2 → cutF (fun b => if b = f.blk then k else p b) (bs ++ [f.blk]) g = cutF p bs g := by
    intro g hg
    have h := hne g hg
    unfold cutF
    by_cases hb : g.blk ∈ bs
    · rw [if_pos (by simp [hb]), if_pos hb]
      simp [h]
    · rw [if_neg (by simp [hb, h]), if_neg hb]
  refine ⟨?_, ?_⟩
  · rw [List.map_append, List.map_cons]
    congr 2
    unfold cutF; rw [if_neg hf]
  · rw [List.map_append, List.map_cons, List.map_congr_left (fun g hg => hc g (.inl hg)), List.map_congr_left (fun g hg => hc g (.inr hg))]
    congr 2
    unfold cutF
    simp
theorem keptA_len (D : Dk) (q : Nat) : (D.keptA q).length ≤ D.kp.length + D.ch.length := by
  unfold Dk.keptA
  have h : ∀ (l : List Ch) (m : List (Nam × Nat)), (l.foldl chg m).length ≤ m.length + l.length := by
    intro l
    induction l with
    | nil => intro m; exact Nat.le_refl _
    | cons c l ih =>
      intro m
      have h1 := ih (chg m c)
      have h2 := chg_len m c
      rw [List.foldl_cons, List.length_cons]
      omega
  have h1 := h (D.ch.take q) D.kp
  have h2 : (D.ch.take q).length ≤ D.ch.length := by rw [List.length_take]; exact Nat.min_le_right _ _
  omega
theorem keptA_step (D : Dk) (k : Nat) (h : k < D.ch.length) : D.keptA (k + 1) = chg (D.keptA k) D.ch[k] := by
  unfold Dk.keptA
  rw [take_next D.ch k h, List.foldl_append]; rfl
theorem keptA_W {D : Dk} (hW : DkW D) (q : Nat) : ∀ p, p ∈ D.keptA q → ∃ f, ffind D.fl p.2 = some f := by
  unfold Dk.keptA
  have h : ∀ (l : List Ch) (m : List (Nam × Nat)), (∀ c, c ∈ l → ∀ b, c.f = some b → ∃ f, ffind D.fl b = some f) → (∀ p, p ∈ m → ∃ f, ffind D.fl p.2 = some f) → ∀ p, p ∈ l.foldl chg m → ∃ f, ffind D.fl p.2 = some f := by
    intro l
    induction l with
    | nil => intro m _ hm p hp; exact hm p hp
    | cons c l ih =>
      intro m hc hm p hp
      rw [List.foldl_cons] at hp
      refine ih (chg m c) (fun c' hc' => hc c' (List.mem_cons_of_mem _ hc')) (fun p' hp' => ?_) p hp
      have hm1 : ∀ p, p ∈ (if c.gone = [] then m else ndel m c.gone) → ∃ f, ffind D.fl p.2 = some f := by
        intro p hp
        split at hp
        · exact hm p hp
        · exact hm p (ndel_mem.1 hp).1
      unfold chg at hp'
      cases hf : c.f with
      | none => rw [hf] at hp'; exact hm1 p' hp'
      | some b =>
        rw [hf] at hp'
        rcases List.mem_cons.1 hp' with rfl | h
        · exact hc c List.mem_cons_self b hf
        · exact hm1 p' (ndel_mem.1 h).1
  exact h (D.ch.take q) D.kp (fun c hc => hW.ch c (List.mem_of_mem_take hc)) hW.kp

/-- The files of blocks. -/
theorem files_of {fl : List Fl} : ∀ (bs : List Nat), (∀ b, b ∈ bs → ∃ f, ffind fl b = some f) → ∃ L : List Fl, L.map (·.blk) = bs ∧ ∀ f, f ∈ L → f ∈ fl
  | [], _ => ⟨[], rfl, by simp⟩
  | b :: bs, h => by
    obtain ⟨f, hf⟩ := h b List.mem_cons_self
    obtain ⟨h1, h2⟩ := ffind_mem hf
    obtain ⟨L, k1, k2⟩ := files_of bs (fun b' hb' => h b' (List.mem_cons_of_mem _ hb'))
    exact ⟨f :: L, by rw [List.map_cons, k1, h2], fun g hg => by
      rcases List.mem_cons.1 hg with rfl | hg
      · exact h1
      · exact k2 g hg⟩
theorem ffind_cutF (p : Nat → Nat) (bs : List Nat) (l : List Fl) (b : Nat) : ffind (l.map (cutF p bs)) b = (ffind l b).map (cutF p bs) := by
  unfold ffind
  induction l with
  | nil => rfl
  | cons f l ih =>
    rw [List.map_cons]
    by_cases h : f.blk = b
    · rw [List.find?_cons_of_pos (by simp [cutF_blk, h]), List.find?_cons_of_pos (by simp [h])]; rfl
    · rw [List.find?_cons_of_neg (by simpa [cutF_blk] using h), List.find?_cons_of_neg (by simpa using h)]
      exact ih
/-- Behind a crash: the names. -/
theorem crash_look (D : Dk) (q : Nat) (p : Nat → Nat) (s : Nam) : (D.crash q p).look s = (nfind (D.keptA q) s).bind fun b => (ffind D.fl b).map fun f => { f with b := f.b.take (f.s + p f.blk), s := f.s + p f.blk } := by
  unfold Dk.look Dk.crash
  dsimp only
  cases h : nfind (D.keptA q) s with
  | none => rfl
  | some b =>
    rw [Option.bind_some, Option.bind_some, ffind_cutF]
    cases hf : ffind D.fl b with
    | none => rfl
    | some f =>
      rw [Option.map_some, Option.map_some]
      congr 1
      unfold cutF
      rw [if_pos]
      rw [(ffind_mem hf).2]
      exact List.mem_map.2 ⟨(s, b), nfind_mem h, rfl⟩
theorem crash_W {D : Dk} (hW : DkW D) (q : Nat) (p : Nat → Nat) : DkW (D.crash q p) := by
  have h : ∀ x, x ∈ D.keptA q → ∃ f, ffind (D.fl.map (cutF p ((D.keptA q).map (·.2)))) x.2 = some f := fun x hx => by
    obtain ⟨f, hf⟩ := keptA_W hW q x hx
    exact ⟨_, by rw [ffind_cutF, hf]; rfl⟩
  exact ⟨h, h, fun c hc => by cases hc⟩
end Go.Proofs.YtncjffkpkmjgkaaGreatDoor.Sg

/-! Yc -/
namespace Go.Proofs.YtncjffkpkmjgkaaGreatDoor.Sg
open Go.RowKit Er Go.Maps

theorem chV_at : ∀ (l : List Ch) (k : Nat) (c : Ch), l[k]? = some c → ∀ j u, (chV c)[j]? = some u → (l.flatMap chV)[k * 3 + j]? = some u
  | [], _, _, h, _, _, _ => by simp at h
  | x :: l, 0, c, h, j, u, hu => by
    simp at h; subst h
    rw [Nat.zero_mul, Nat.zero_add, List.flatMap_cons]
    have hj : j < (chV x).length := (List.getElem?_eq_some_iff.1 hu).1
    rw [List.getElem?_append_left hj]; exact hu
  | x :: l, k + 1, c, h, j, u, hu => by
    rw [List.flatMap_cons]
    have hl : (chV x).length = 3 := rfl
    rw [List.getElem?_append_right (by rw [hl]; omega)]
    have := chV_at l k c (by simpa using h) j u hu
    rw [← this]
    congr 1
    rw [hl]; omega
theorem picked_0 (w : World) (a : Option Addr) (xs : List Int) (m c : Nat) (hm : xs.length = m) (hr : IntsR w a xs) (n q : Nat) (hn : n ≤ 1099511627776) (hq : pickF xs 0 n = q) :
    Calls Tryz.prog 72 #[.slice a m c, .int .i64 0, .int .i64 n] w fun e w' => e = .returned (.int .i64 q) ∧ w' = w := by
  subst hq
  exact picked_ok w a xs m c hm hr 0 n hn
theorem picked_k (w : World) (a : Option Addr) (xs : List Int) (m c : Nat) (hm : xs.length = m) (hr : IntsR w a xs) (k n : Nat) (hn : n ≤ 1099511627776) (z y : Int) (hz : z = (n : Int)) (hy : y = (k : Int)) :
    Calls Tryz.prog 72 #[.slice a m c, .int .i64 y, .int .i64 z] w fun e w' => e = .returned (.int .i64 (pickF xs k n)) ∧ w' = w := by
  subst hz hy
  exact picked_ok w a xs m c hm hr k n hn
theorem cutF_congr (p : Nat → Nat) {bs bs' : List Nat} (h : ∀ b, b ∈ bs ↔ b ∈ bs') : cutF p bs = cutF p bs' := by
  funext f
  unfold cutF
  by_cases hb : f.blk ∈ bs
  · rw [if_pos hb, if_pos ((h _).1 hb)]
  · rw [if_neg hb, if_neg (fun hh => hb ((h _).2 hh))]

theorem key_one {m : List (Nam × Nat)} (h : (kvOf m).Pairwise (fun p q => p.1 ≠ q.1)) {p q : Nam × Nat} (hp : p ∈ m) (hq : q ∈ m) (e : p.1 = q.1) : p = q := by
  induction m with
  | nil => cases hp
  | cons x l ih =>
    rw [kvOf, List.map_cons, List.pairwise_cons] at h
    have hx : ∀ y, y ∈ l → x.1 ≠ y.1 := fun y hy e => h.1 (Lit.string y.1, ptr y.2) (List.mem_map.2 ⟨y, hy, rfl⟩) (by rw [e])
    rcases List.mem_cons.1 hp with h1 | h1
    · rcases List.mem_cons.1 hq with h2 | h2
      · rw [h1, h2]
      · rw [h1] at e; exact absurd e (hx q h2)
    · rcases List.mem_cons.1 hq with h2 | h2
      · rw [h2] at e; exact absurd e.symm (hx p h1)
      · exact ih h.2 h1 h2
/-- What is ranged over is not the row. -/
theorem ranges_row {w : World} {P : Pm} {kb r n m sz : Nat} {Dm : DataW Value} {left : Lit → Bool} {cnt : Nat} {t : TypeId} {v : Value} {xs : List Value} {Al M : Mm} (h : w.ranges Tryz.prog 9 Rv kb r n Dm left cnt) (hr : RowM t sz v m xs Al) (hH : Hp w P (Al ++ M)) :
    r ∉ ids Al ∧ some kb ≠ v.ownBlock ∧ some r ≠ v.ownBlock := by
  obtain ⟨es, clock, since, seen, c0, h1, -, -, -, h2, -⟩ := h
  rcases hr.2 with ⟨rfl, -, rfl⟩ | ⟨g, cap, cur, rfl, -, -, -, -, rfl⟩
  · exact ⟨by simp [ids], by simp [Value.ownBlock], by simp [Value.ownBlock]⟩
  · have hg := hH.own (g, .cells cur t (0, 0)) (by simp)
    dsimp only at hg
    have e1 : r ≠ g := fun e => by rw [e, hg] at h2; cases h2
    have e2 : kb ≠ g := fun e => by rw [e, hg] at h1; cases h1
    exact ⟨by simpa [ids] using e1, by simpa [Value.ownBlock] using e2, by simpa [Value.ownBlock] using e1⟩

section
variable {P : Pm} {d : Nat} {D : Dk} {A F : Mm} {w : World}

/-- What holds at the head of Crash's first loop. -/
def YaRel (D : Dk) (q : Nat) (kb : Nat) (P : Pm) (M1 : Mm) (m : Nat) (vi : Value) (w : World) : Prop :=
  ∃ (k : Nat) (ko : Obj), k + m = q ∧ vi = .int .i64 k ∧ MapO 9 ko (kvOf (D.keptA k)) ∧ Hp w P ((kb, ko) :: M1)
/-- .. its second loop. -/
def YbRel (kq : List (Nam × Nat)) (kb r n : Nat) (Dm : DataW Value) (P : Pm) (M2 : Mm) (cnt : Nat) (v : Value) (w : World) : Prop :=
  ∃ (left : Lit → Bool) (Al : Mm) (acc : List Nat), w.ranges Tryz.prog 9 Rv kb r n Dm left cnt ∧ RowM 86 1 v acc.length (acc.map ptr) Al ∧ acc.Nodup ∧ (∀ b, b ∈ acc ↔ ∃ p, p ∈ kq ∧ left (.string p.1) = false ∧ p.2 = b) ∧ acc.length + cnt ≤ kq.length ∧ Hp w P (Al ++ M2)
/-- .. its third loop. -/
def YcRel (D : Dk) (L : List Fl) (P : Pm) (Ap Rt F : Mm) (m : Nat) (vi : Value) (w : World) : Prop :=
  ∃ (k : Nat) (p : Nat → Nat) (P' : Pm) (Af : Mm), k + m = L.length ∧ vi = .int .i64 k ∧ Sub P P' ∧ (∀ f, f ∈ D.fl → p f.blk ≤ f.b.length - f.s) ∧ FlsM P' (D.fl.map (cutF p ((L.take k).map (·.blk)))) Af ∧ Hp w P' (Ap ++ (Rt ++ (Af ++ F)))

set_option maxRecDepth 100000 in
set_option maxHeartbeats 16000000 in
theorem crash_ok (hD : DkM P d D A) (hW : DkW D) (hcn : ∀ c, c ∈ D.ch → c.nm.length ≤ 1000000 ∧ c.gone.length ≤ 1000000) (hkl : D.kp.length + D.ch.length < 1000000) (q : Nat) (a : Option Addr) (xs : List Int) (pc : Nat) (hq : pickF xs 0 D.ch.length = q)
    (hinj : ((D.keptA q).map (·.2)).Nodup) (hfl0 : ∀ f, f ∈ D.fl → f.blk ∈ (D.keptA q).map (·.2) → f.b.length ≤ 1099511627776) (hn9 : D.n ≤ 1000000000) (hpk : Pers P (fun w => IntsR w a xs)) (hH : Hp w P (A ++ F)) :
    Calls Tryz.prog 30 #[ptr d, .slice a xs.length pc] w fun e w' => e = .returned (.tuple #[]) ∧ ∃ p P' A', (∀ f, f ∈ D.fl → p f.blk ≤ f.b.length - f.s) ∧ Sub P P' ∧ DkM P' d (D.crash q p) A' ∧ Hp w' P' (A' ++ F) := by
  have hndA := hH.nd
  obtain ⟨nb, no, kb, ko, cv, Ac, Af, rfl, h2, h3, h4, h5, h6⟩ := hD
  have hnd : (D.fl.map (·.blk)).Nodup := by
    rw [← h5.blks]
    unfold ids at hndA ⊢
    simp only [List.map_cons, List.map_append, List.nodup_cons, List.nodup_append] at hndA
    exact hndA.2.2.2.2.1
  have hfl : ∀ f, f ∈ D.fl → f.blk ∈ (D.keptA q).map (·.2) → f.s ≤ f.b.length ∧ f.b.length ≤ 1099511627776 ∧ f.id ≤ 1000000000 := fun f hf hb => ⟨(h6.2 f hf).2, hfl0 f hf hb, Nat.le_trans (h6.2 f hf).1 hn9⟩
  have HFO := Lib.hid h6.2
  obtain ⟨ca, cc, rfl⟩ := h4.shape
  obtain ⟨n, hn⟩ : ∃ n, D.ch.length = n := ⟨_, rfl⟩
  have hca : (ca = none ∧ n = 0 ∧ cc = 0) ∨ ((∃ g, ca = some ⟨g, 0, none⟩) ∧ n ≤ cc) := by
    rcases h4.2 with ⟨h, h', -⟩ | ⟨g, cap, cur, h, h', -⟩
    · simp only [Value.slice.injEq] at h; exact .inl ⟨h.1, by rw [← hn]; exact h', h.2.2⟩
    · simp only [Value.slice.injEq] at h; exact .inr ⟨⟨g, h.1⟩, by rw [← hn, h.2.2]; exact h'⟩
  have hql : q ≤ n := by rw [← hq, hn]; exact pickF_le _ _ _
  rw [hn] at hq hkl h4
  have hnn : n ≤ 1000000 := by omega
  obtain ⟨pn, hpn⟩ : ∃ n, xs.length = n := ⟨_, rfl⟩
  rw [hpn]
  obtain ⟨dc, hdc⟩ : ∃ dc, dkCells D nb kb (.slice ca D.ch.length cc) = dc := ⟨_, rfl⟩
  have hd2 : dc[2]? = some (.map (some kb)) := by rw [← hdc]; rfl
  have hd3 : dc[3]? = some (.slice ca n cc) := by rw [← hdc, hn]; rfl
  rw [hdc] at hH
  have hH1 : Hp w P ((kb, ko) :: ((d, Obj.cells dc 82 (0, 0)) :: (nb, no) :: (Ac ++ (Af ++ F)))) := by
    have h1 := hH.pick 2 rfl
    simpa [List.append_assoc] using h1
  obtain ⟨M1, hM1⟩ : ∃ M, M = ((d, Obj.cells dc 82 (0, 0)) :: (nb, no) :: (Ac ++ (Af ++ F))) := ⟨_, rfl⟩
  rw [← hM1] at hH1
  have hdm : ∀ w P o, Hp w P ((kb, o) :: M1) → w.cell? ⟨d, 2, none⟩ = some (.map (some kb)) ∧ w.cell? ⟨d, 3, none⟩ = some (.slice ca n cc) := fun w P o hx =>
    ⟨hx.cell (b := d) (c := dc) (t := 82) (fr := (0, 0)) (by rw [hM1]; simp) hd2, hx.cell (b := d) (c := dc) (t := 82) (fr := (0, 0)) (by rw [hM1]; simp) hd3⟩
  have hch : ∀ w P o, Hp w P ((kb, o) :: M1) → ∀ k c, D.ch[k]? = some c → ∃ g, ca = some ⟨g, 0, none⟩ ∧ w.cell? ⟨g, k * 3, none⟩ = some (str c.nm) ∧ w.cell? ⟨g, k * 3 + 1, none⟩ = some (str c.gone) ∧ w.cell? ⟨g, k * 3 + 2, none⟩ = some (optPtr c.f) := fun w P o hx k c hk => by
    rw [hM1] at hx
    have hx2 := Hp.mid (A := [(kb, o), (d, Obj.cells dc 82 (0, 0)), (nb, no)]) (B := Ac) (C := Af ++ F) hx
    obtain ⟨g, c0, e1, -, e2⟩ := RowM.cell h4 hx2 (chV_at D.ch k c hk 0 (str c.nm) rfl)
    obtain ⟨g', c1, e3, -, e4⟩ := RowM.cell h4 hx2 (chV_at D.ch k c hk 1 (str c.gone) rfl)
    obtain ⟨g'', c2, e5, -, e6⟩ := RowM.cell h4 hx2 (chV_at D.ch k c hk 2 (optPtr c.f) rfl)
    simp only [Value.slice.injEq] at e1 e3 e5
    obtain ⟨rfl, -, -⟩ := e1
    obtain ⟨e3, -, -⟩ := e3
    obtain ⟨e5, -, -⟩ := e5
    simp only [Option.some.injEq, Addr.mk.injEq, and_true] at e3 e5
    subst e3 e5
    exact ⟨g, rfl, e2, e4, e6⟩
  have H0 := Lib.hid hH1
  have HDM := Lib.hid hdm
  have HCH := Lib.hid hch
  have HPN := Lib.hid hpn
  have HPK := Lib.hid hpk
  have HQ := Lib.hid hq
  have HCA := Lib.hid hca
  have HM1 := Lib.hid hM1
  have HKO := Lib.hid (show MapO 9 ko (kvOf (D.keptA 0)) from h3)
  have HNO := Lib.hid h2
  have HFM := Lib.hid h5
  have HND := Lib.hid hnd
  have HCN := Lib.hid hcn
  have HFL := Lib.hid hfl
  have HINJ := Lib.hid hinj
  have HN := Lib.hid hn
  have HDC := Lib.hid hdc
  have HKW := Lib.hid (keptA_W hW)
  have HKL := Lib.hid (keptA_len D)
  have hkl1 : ∀ k, (D.keptA k).length < 1000000 := fun k => by have := keptA_len D k; rw [hn] at this; omega
  have HKL1 := Lib.hid hkl1
  clear hH hH1 hdm hch hpn hpk hq hca hM1 h2 h3 h4 h5 h6 hnd hcn hfl hfl0 hinj hn hdc hW hd2 hd3 hndA hkl hkl1
  go_enter Tryz.func30, Tryz.ntmps30
  go_wp2_with fail
  refine wp_region_hp (by kernel_rfl) (by decide) _ _ H0.out (fun i _ v => match i with | 0 => v = ptr d | 1 => v = ptr d | 2 => v = .pointer (some ⟨d, 3, none⟩) | 3 => v = .slice ca n cc | 4 => v = .slice a pn pc | 5 => v = ptr d | 6 => v = ptr d | 7 => v = .pointer (some ⟨d, 3, none⟩) | 8 => v = .slice ca n cc | 9 => v = .int .i64 n | 10 => v = .int .i64 q | 11 => v = .slice ca q cc | 12 => v = .int .i64 q | 13 => v = .int .i64 0 | _ => True) (by intro i P P' v _ h; exact h) ?_ ?_
  · intro i o ho u wq Pq hsq hHq hp K hK
    rcases i with _ | _ | _ | _ | _ | _ | _ | _ | _ | _ | _ | _ | _ | _ | i
    · cases ho
      simp only [frOf, Act.put, List.setIfInBounds_toArray, List.set_cons_zero, List.set_cons_succ, Nat.zero_add, Nat.reduceAdd] at hK ⊢
      go_simp
      exact hK _ wq Pq (Sub.refl _) hHq rfl
    · cases ho
      have h0 : u 0 = ptr d := hp ⟨0, .data⟩ (by simp) rfl
      simp only [frOf, Act.put, List.setIfInBounds_toArray, List.set_cons_zero, List.set_cons_succ, Nat.zero_add, Nat.reduceAdd] at hK ⊢
      simp only [h0] at hK ⊢
      go_simp
      exact hK _ wq Pq (Sub.refl _) hHq rfl
    · cases ho
      have h1 : u 1 = ptr d := hp ⟨1, .data⟩ (by simp) rfl
      simp only [frOf, Act.put, List.setIfInBounds_toArray, List.set_cons_zero, List.set_cons_succ, Nat.zero_add, Nat.reduceAdd] at hK ⊢
      simp only [h1] at hK ⊢
      go_simp
      exact hK _ wq Pq (Sub.refl _) hHq rfl
    · cases ho
      have h2 : u 2 = .pointer (some ⟨d, 3, none⟩) := hp ⟨2, .data⟩ (by simp) rfl
      simp only [frOf, Act.put, List.setIfInBounds_toArray, List.set_cons_zero, List.set_cons_succ, Nat.zero_add, Nat.reduceAdd] at hK ⊢
      simp only [h2] at hK ⊢
      obtain ⟨-, k3⟩ := HDM.out _ _ _ hHq
      go_simp
      exact hK _ wq Pq (Sub.refl _) hHq rfl
    · cases ho
      simp only [frOf, Act.put, List.setIfInBounds_toArray, List.set_cons_zero, List.set_cons_succ, Nat.zero_add, Nat.reduceAdd] at hK ⊢
      go_simp
      exact hK _ wq Pq (Sub.refl _) hHq rfl
    · cases ho
      simp only [frOf, Act.put, List.setIfInBounds_toArray, List.set_cons_zero, List.set_cons_succ, Nat.zero_add, Nat.reduceAdd] at hK ⊢
      go_simp
      exact hK _ wq Pq (Sub.refl _) hHq rfl
    · cases ho
      have h5 : u 5 = ptr d := hp ⟨5, .data⟩ (by simp) rfl
      simp only [frOf, Act.put, List.setIfInBounds_toArray, List.set_cons_zero, List.set_cons_succ, Nat.zero_add, Nat.reduceAdd] at hK ⊢
      simp only [h5] at hK ⊢
      go_simp
      exact hK _ wq Pq (Sub.refl _) hHq rfl
    · cases ho
      have h6 : u 6 = ptr d := hp ⟨6, .data⟩ (by simp) rfl
      simp only [frOf, Act.put, List.setIfInBounds_toArray, List.set_cons_zero, List.set_cons_succ, Nat.zero_add, Nat.reduceAdd] at hK ⊢
      simp only [h6] at hK ⊢
      go_simp
      exact hK _ wq Pq (Sub.refl _) hHq rfl
    · cases ho
      have h7 : u 7 = .pointer (some ⟨d, 3, none⟩) := hp ⟨7, .data⟩ (by simp) rfl
      simp only [frOf, Act.put, List.setIfInBounds_toArray, List.set_cons_zero, List.set_cons_succ, Nat.zero_add, Nat.reduceAdd] at hK ⊢
      simp only [h7] at hK ⊢
      obtain ⟨-, k3⟩ := HDM.out _ _ _ hHq
      go_simp
      exact hK _ wq Pq (Sub.refl _) hHq rfl
    · cases ho
      have h8 : u 8 = .slice ca n cc := hp ⟨8, .data⟩ (by simp) rfl
      simp only [frOf, Act.put, List.setIfInBounds_toArray, List.set_cons_zero, List.set_cons_succ, Nat.zero_add, Nat.reduceAdd] at hK ⊢
      simp only [h8] at hK ⊢
      go_simp
      exact hK _ wq Pq (Sub.refl _) hHq rfl
    · cases ho
      have h4 : u 4 = .slice a pn pc := hp ⟨4, .data⟩ (by simp) rfl
      have h9 : u 9 = .int .i64 n := hp ⟨9, .data⟩ (by simp) rfl
      simp only [frOf, Act.put, List.setIfInBounds_toArray, List.set_cons_zero, List.set_cons_succ, Nat.zero_add, Nat.reduceAdd] at hK ⊢
      simp only [h4, h9] at hK ⊢
      go_simp
      with_reducible refine (picked_0 _ a xs pn pc HPN.out (hHq.use (HPK.out.sub hsq)) n q (by omega) HQ.out).mono ?_
      rintro e w3 ⟨rfl, rfl⟩
      exact hK _ _ Pq (Sub.refl _) hHq rfl
    · cases ho
      have h3 : u 3 = .slice ca n cc := hp ⟨3, .data⟩ (by simp) rfl
      have h10 : u 10 = .int .i64 q := hp ⟨10, .data⟩ (by simp) rfl
      simp only [frOf, Act.put, List.setIfInBounds_toArray, List.set_cons_zero, List.set_cons_succ, Nat.zero_add, Nat.reduceAdd] at hK ⊢
      simp only [h3, h10] at hK ⊢
      have i1 : (q : Int) ≤ (cc : Int) := by rcases HCA.out with ⟨-, h2, h3⟩ | ⟨-, h⟩ <;> omega
      have i2 : (0 : Int) ≤ (q : Int) := by omega
      go_simp
      exact hK _ wq Pq (Sub.refl _) hHq (by rcases HCA.out with ⟨h, h2, h3⟩ | ⟨⟨g, h⟩, h2⟩ <;> rw [h] <;> simp [Addr.add] <;> omega)
    · cases ho
      have h11 : u 11 = .slice ca q cc := hp ⟨11, .data⟩ (by simp) rfl
      simp only [frOf, Act.put, List.setIfInBounds_toArray, List.set_cons_zero, List.set_cons_succ, Nat.zero_add, Nat.reduceAdd] at hK ⊢
      simp only [h11] at hK ⊢
      go_simp
      exact hK _ wq Pq (Sub.refl _) hHq rfl
    · cases ho
      simp only [frOf, Act.put, List.setIfInBounds_toArray, List.set_cons_zero, List.set_cons_succ, Nat.zero_add, Nat.reduceAdd] at hK ⊢
      go_simp
      exact hK _ wq Pq (Sub.refl _) hHq rfl
    · exact absurd ho (by simp)
  intro u wq Pq hsq hHq hR
  have h11 : u 11 = .slice ca q cc := hR 11 (by decide)
  have h12 : u 12 = .int .i64 q := hR 12 (by decide)
  have h13 : u 13 = .int .i64 0 := hR 13 (by decide)
  simp only [frOf, List.setIfInBounds_toArray, List.set_cons_zero, List.set_cons_succ, Nat.zero_add, Nat.reduceAdd]
  simp only [h11, h12, h13]
  have H1 := Lib.hid (hHq.weaken hsq)
  clear hR hHq hsq h11 h12 h13
  go_wp2_with fail
  go_loopg [24] q (fun m vi wr => YaRel D q kb P M1 m vi wr)
  case atStart => exact ⟨0, ko, by omega, rfl, HKO.out, H1.out⟩
  case round =>
    obtain ⟨k, ko1, hk, rfl, hmo, hHr⟩ := hrel
    by_cases hlt : k < q
    · obtain ⟨gj, rfl⟩ : ∃ x, gk = x + 1 := ⟨gk - 1, by omega⟩
      have hkn : k < D.ch.length := by rw [HN.out]; omega
      obtain ⟨c, hc⟩ : ∃ c, D.ch[k] = c := ⟨_, rfl⟩
      obtain ⟨g, rfl, z0, z1, z2⟩ := HCH.out _ _ _ hHr k c (by rw [List.getElem?_eq_getElem hkn, hc])
      obtain ⟨fv, hfv⟩ : ∃ fv, optPtr c.f = fv := ⟨_, rfl⟩
      obtain ⟨fp, rfl⟩ : ∃ fp, fv = .pointer fp := by rw [← hfv]; cases c.f <;> exact ⟨_, rfl⟩
      rw [hfv] at z2
      obtain ⟨c1, c2⟩ := HCN.out c (by rw [← hc]; exact List.getElem_mem _)
      obtain ⟨k2, -⟩ := HDM.out _ _ _ hHr
      have hbx := hHr.alloc (.cells #[str c.nm, str c.gone, .pointer fp] 91)
      have hbx' := hbx.pick 1 rfl
      have hks := keptA_step D k hkn
      rw [hc] at hks
      have HBX : Hid (Hp (wr.alloc (.cells #[str c.nm, str c.gone, (.pointer fp)] 91)) P ((kb, ko1) :: (wr.heap.size, .cells #[str c.nm, str c.gone, (.pointer fp)] 91 (0, 0)) :: M1)) := hbx'
      have hin : ∀ w o, Hp w P ((kb, o) :: (wr.heap.size, .cells #[str c.nm, str c.gone, (.pointer fp)] 91 (0, 0)) :: M1) → Hp w P ((kb, o) :: M1) ∧ w.cell? ⟨d, 2, none⟩ = some (.map (some kb)) ∧ w.cell? ⟨wr.heap.size, 0, none⟩ = some (str c.nm) ∧ w.cell? ⟨wr.heap.size, 1, none⟩ = some (str c.gone) ∧ w.cell? ⟨wr.heap.size, 2, none⟩ = some (.pointer fp) := fun w' o hx => by
        have h1 : Hp w' P ((kb, o) :: M1) := by simpa using (hx.pick 1 rfl).tail
        exact ⟨h1, (HDM.out _ _ _ h1).1, hx.cell (b := wr.heap.size) (c := #[str c.nm, str c.gone, (.pointer fp)]) (t := 91) (fr := (0, 0)) (by simp) rfl, hx.cell (b := wr.heap.size) (c := #[str c.nm, str c.gone, (.pointer fp)]) (t := 91) (fr := (0, 0)) (by simp) rfl, hx.cell (b := wr.heap.size) (c := #[str c.nm, str c.gone, (.pointer fp)]) (t := 91) (fr := (0, 0)) (by simp) rfl⟩
      have HIN := Lib.hid hin
      have HFV := Lib.hid hfv
      have HKS := Lib.hid hks
      have HMO := Lib.hid hmo
      have hkb := HKL1.out k
      have i1 : (k : Int) < (q : Int) := by omega
      have i2 : (0 : Int) ≤ (k : Int) := by omega
      obtain ⟨-, b0, b1, b2, b3⟩ := hin _ _ hbx'
      clear hbx hbx' hin hfv hks hmo hHr hc
      go_wp2_with fail
      go_region_held3 (fun w' => w'.cell? ⟨d, 2, none⟩ = some (.map (some kb)) ∧ w'.cell? ⟨wr.heap.size, 0, none⟩ = some (str c.nm) ∧ w'.cell? ⟨wr.heap.size, 1, none⟩ = some (str c.gone) ∧ w'.cell? ⟨wr.heap.size, 2, none⟩ = some (.pointer fp))
        (first
          | go_keep
          | exact ⟨b0, b1, b2, b3⟩)
        (first
          | (go_at_call 73
             with_reducible refine (apply_any P kb ko1 (D.keptA k) c.nm c.gone c.f (.pointer fp) HFV _ HMO.out hkb c1 c2 _ HBX.out.drew).mono ?_
             rintro e w3 ⟨rfl, ko2, hmo2, hH3⟩
             obtain ⟨hH4, b0, b1, b2, b3⟩ := HIN.out _ _ hH3))
      have H4 := Lib.hid hH4
      have HMO2 := Lib.hid hmo2
      clear hH3 hH4 hmo2 b0 b1 b2 b3
      go_wp2_with fail
      go_roundg gj
      case measure => omega
      case rel => exact ⟨k + 1, ko2, by omega, by simp, by rw [HKS.out]; exact HMO2.out, H4.out⟩
    · have hkq : k = q := by omega
      subst hkq
      obtain ⟨kq, hkq⟩ : ∃ m, D.keptA k = m := ⟨_, rfl⟩
      rw [hkq] at hmo
      have hkqi := HINJ.out
      rw [hkq] at hkqi
      have hkqw := HKW.out k
      rw [hkq] at hkqw
      have hkql := HKL1.out k
      rw [hkq] at hkql
      obtain ⟨M2, hM2⟩ : ∃ M, M = (kb, ko1) :: M1 := ⟨_, rfl⟩
      obtain ⟨k2, -⟩ := HDM.out _ _ _ hHr
      rw [← hM2] at hHr
      have hmk : Hid ((kb, ko1) ∈ M2) := by show _ ∈ _; rw [hM2]; simp
      have HMK := hmk
      have hflq := HFL.out
      rw [hkq] at hflq
      have HFLQ := Lib.hid hflq
      have HKQ := Lib.hid hkq
      have HKQI := Lib.hid hkqi
      have HKQW := Lib.hid hkqw
      have HM2 := Lib.hid hM2
      have HMO := Lib.hid hmo
      have HR1 := Lib.hid hHr
      clear hkq hkqi hkqw hM2 hmo hHr hflq
      go_wp2_with (at_range; refine wpList_range_hp rfl _ 79 9 86 rfl strK Tryz.underlying79 rfl HR1.out HMK.out HMO.out ?_; intro Dm w0 hDm hrg hH0 hr1 hr2)
      have hkwn := hDm.nodup
      obtain ⟨rb, hrb⟩ : ∃ r, wr.heap.size = r := ⟨_, rfl⟩
      rw [hrb] at hrg hr1 hr2 ⊢
      have hst0 : ∀ b, b ∈ ([] : List Nat) ↔ ∃ p, p ∈ kq ∧ Maps.has Dm (.string p.1) = false ∧ p.2 = b := fun b => by
        refine ⟨fun h => by simp at h, fun ⟨p, hp, h1, _⟩ => ?_⟩
        rw [kfind_has hDm, kfind_kv] at h1
        obtain ⟨b', hb'⟩ := nfind_of_mem hp
        rw [hb'] at h1; cases h1
      have HST : Hid (YbRel kq kb rb (kvOf kq).length Dm P M2 (Maps.size Dm) (.slice none 0 0) w0) := ⟨_, [], [], hrg, rowM_nil _ _, List.nodup_nil, hst0, by rw [hDm.size, kv_len]; simp, hH0⟩
      have HDm := Lib.hid hDm
      have HB1 := Lib.hid hr1
      have HB2 := Lib.hid hr2
      have hfile : ∀ b, b ∈ kq.map (·.2) → ∃ f, f ∈ D.fl ∧ f.blk = b := fun b hb => by
        obtain ⟨p, hp, rfl⟩ := List.mem_map.1 hb
        obtain ⟨f, hf⟩ := HKQW.out p hp
        exact ⟨f, ffind_mem hf⟩
      have hcell : ∀ f, f ∈ D.fl → ∃ x, (f.blk, Obj.cells (fcells f x) 89 (0, 0)) ∈ M2 := fun f hf => by
        obtain ⟨x, hx, -⟩ := HFM.out.at_ hf
        exact ⟨x, by rw [HM2.out, HM1.out]; simp [hx]⟩
      have HFILE := Lib.hid hfile
      have HCELL := Lib.hid hcell
      have HKWN := Lib.hid hkwn
      clear hDm hrg hH0 hr1 hr2 k2 hrb hkwn hfile hcell hst0
      go_frame
      go_loopg [6] (Maps.size Dm) (fun cnt v w2 => YbRel kq kb rb (kvOf kq).length Dm P M2 cnt v w2)
      case atStart => exact HST.out
      case round =>
        obtain ⟨left, Al, acc, hrg, hrow, hnda, hacc, hcnt, hHr⟩ := hrel
        obtain ⟨va, vc, rfl⟩ := hrow.shape
        obtain ⟨x1, x2, x3⟩ := ranges_row hrg hrow hHr
        have hnotin : rb ∉ ids (Al ++ M2) := by
          unfold ids at x1 ⊢
          rw [List.map_append, List.mem_append]
          exact fun h => h.elim x1 HB1.out
        go_wp2_with (at_next; refine wpList_next_hp (α := ByteArray) rfl _ rfl 9 strK Value.string invStr rfl hrg HDm.out hHr hnotin HB2.out ?_ ?_)
        · intro hl0
          have hall : ∀ b, b ∈ acc ↔ b ∈ kq.map (·.2) := fun b => by
            rw [hacc, List.mem_map]
            exact ⟨fun ⟨p, h1, _, h3⟩ => ⟨p, h1, h3⟩, fun ⟨p, h1, h3⟩ => ⟨p, h1, hl0 _, h3⟩⟩
          obtain ⟨Lf, hLf, hLm⟩ := files_of (fl := D.fl) acc (fun b hb => by
            obtain ⟨p, hp, rfl⟩ := List.mem_map.1 ((hall b).1 hb)
            exact HKQW.out p hp)
          have hLl : Lf.length = acc.length := by rw [← hLf, List.length_map]
          have hrow2 : RowM 86 1 (.slice va acc.length vc) Lf.length (Lf.map fun f => ptr f.blk) Al := by
            rw [hLl]
            have e : (Lf.map fun f => ptr f.blk) = acc.map ptr := by rw [← hLf, List.map_map]; rfl
            rw [e]; exact hrow
          have hsort := sortfiles_hp Lf _ hrow2 (fun f hf => ⟨HCELL.out f (hLm f hf), (HFLQ.out f (hLm f hf) ((hall _).1 (by rw [← hLf]; exact List.mem_map.2 ⟨f, hf, rfl⟩))).2.2⟩) (by omega) hHr
          have HSORT := Lib.hid hsort
          have HALL := Lib.hid hall
          have HLF := Lib.hid hLf
          have HLM := Lib.hid hLm
          have HNDA := Lib.hid hnda
          have HLL := Lib.hid (show Lf.length ≤ 1000000 by omega)
          clear hl0 hall hLf hLm hrow hrow2 hsort hacc hHr hrg x1 x2 x3 hnotin hcnt hnda
          rw [← hLl] at HSORT ⊢
          obtain ⟨ln, hln⟩ : ∃ n, Lf.length = n := ⟨_, rfl⟩
          rw [hln] at HSORT ⊢
          have HLN := Lib.hid hln
          clear hln hLl
          go_wp2_with fail
          refine HSORT.out.mono ?_
          rintro e w3 ⟨rfl, L, Ap, hperm, hrow, hH3⟩
          have hLln : L.length = ln := hperm.length_eq.trans HLN.out
          have hLm : ∀ f, f ∈ L → f ∈ D.fl := fun f hf => HLM.out f (hperm.mem_iff.1 hf)
          have hLnd : (L.map (·.blk)).Nodup := (hperm.map (·.blk)).nodup_iff.2 (by rw [HLF.out]; exact HNDA.out)
          have hLall : ∀ b, b ∈ L.map (·.blk) ↔ b ∈ kq.map (·.2) := fun b => by
            rw [← HALL.out b, ← HLF.out]
            exact (hperm.map (·.blk)).mem_iff
          rw [hLln] at hrow
          obtain ⟨Rt, hRt⟩ : ∃ M : Mm, M = (kb, ko1) :: (d, Obj.cells dc 82 (0, 0)) :: (nb, no) :: Ac := ⟨_, rfl⟩
          have hM2' : M2 = Rt ++ (Af ++ F) := by rw [HM2.out, HM1.out, hRt]; rfl
          rw [hM2'] at hH3
          have H3 := Lib.hid hH3
          have HROW := Lib.hid hrow
          have HLN2 := Lib.hid hLln
          have HLM2 := Lib.hid hLm
          have HLND := Lib.hid hLnd
          have HLALL := Lib.hid hLall
          have HRT := Lib.hid hRt
          have HF0 : Hid (D.fl.map (cutF (fun _ => 0) (((L.take 0).map (·.blk)))) = D.fl) := by
            show _ = _
            rw [List.take_zero, List.map_nil, List.map_congr_left (fun f _ => cutF_none (fun _ => 0) f)]
            exact List.map_id _
          have hl6 : ln ≤ 1000000 := by rw [← HLN.out]; exact HLL.out
          clear hperm hrow hH3 hLln hLm hLnd hLall hRt hM2'
          go_wp2_with fail
          go_loopg [56] ln (fun m vi wr => YcRel D L P Ap Rt F m vi wr)
          case atStart => exact ⟨0, fun _ => 0, P, Af, by rw [HLN2.out]; omega, rfl, Sub.refl _, fun f _ => Nat.zero_le _, by rw [HF0.out]; exact HFM.out, H3.out⟩
          case round =>
            obtain ⟨ix, p, P1, Af1, hi, rfl, hs1, hpl, hfm, hHr⟩ := hrel
            by_cases hlt3 : ix < ln
            · obtain ⟨gj, rfl⟩ : ∃ x, gk = x + 1 := ⟨gk - 1, by have := HLN2.out; omega⟩
              have hil : ix < L.length := by rw [HLN2.out]; exact hlt3
              obtain ⟨f, hf⟩ : ∃ f, L[ix] = f := ⟨_, rfl⟩
              have hfD := HLM2.out f (by rw [← hf]; exact List.getElem_mem hil)
              obtain ⟨l1, l2, hl12⟩ := List.append_of_mem hfD
              have hnd12 := HND.out
              rw [hl12] at hnd12
              have hsp : L = L.take ix ++ f :: L.drop (ix + 1) := by rw [← hf]; exact (take_split L ix hil).symm
              have hnin : f.blk ∉ (L.take ix).map (·.blk) := by
                have h := HLND.out
                rw [hsp, List.map_append, List.map_cons, List.nodup_append] at h
                exact fun hm => h.2.2 _ hm _ (by simp) rfl
              have htk : (L.take (ix + 1)).map (·.blk) = (L.take ix).map (·.blk) ++ [f.blk] := by rw [take_next L ix hil, hf, List.map_append]; rfl
              obtain ⟨qd, hqd⟩ : ∃ q, f.b.length - f.s = q := ⟨_, rfl⟩
              obtain ⟨pk, hpk⟩ : ∃ p, pickF xs (ix + 1) qd = p := ⟨_, rfl⟩
              have hpkl := pickF_le xs (ix + 1) qd
              rw [hpk] at hpkl
              obtain ⟨e1, e2⟩ := cutF_step p ((L.take ix).map (·.blk)) l1 l2 f hnd12 hnin pk
              rw [hl12, e1] at hfm
              obtain ⟨A1, A2, rfl, h7, v, A3, rfl, h8, h9⟩ := hfm.app
              obtain ⟨fa, fc, rfl, hvc⟩ := (hHr.use h8).shape
              have hva : fa = none ∨ ∃ x, fa = some x := by cases fa <;> simp
              obtain ⟨b, hb⟩ : ∃ b, f.blk = b := ⟨_, rfl⟩
              obtain ⟨bl, hbl⟩ : ∃ n, f.b.length = n := ⟨_, rfl⟩
              obtain ⟨fs, hfsd⟩ : ∃ n, f.s = n := ⟨_, rfl⟩
              obtain ⟨g1, g2, g3⟩ := HFLQ.out f hfD ((HLALL.out f.blk).1 (List.mem_map.2 ⟨f, by rw [← hf]; exact List.getElem_mem hil, rfl⟩))
              rw [hbl, hfsd] at g1 hqd
              rw [hbl] at g2 hvc h8
              obtain ⟨MR, hMR⟩ : ∃ M, M = (Ap ++ (Rt ++ A1)) ++ (A3 ++ F) := ⟨_, rfl⟩
              obtain ⟨g, c', e3, -, e4⟩ := RowM.cell HROW.out hHr (j := ix) (u := ptr b) (by rw [List.getElem?_map, List.getElem?_eq_getElem hil, hf, Option.map_some, hb])
              simp only [Value.slice.injEq] at e3
              obtain ⟨rfl, -, -⟩ := e3
              have hH6 : Hp wr P1 ((b, Obj.cells #[.int .i64 f.id, .slice fa bl fc, .int .i64 fs] 89 (0, 0)) :: MR) := by
                rw [hMR]
                have h1 := Hp.mid (A := Ap ++ (Rt ++ A1)) (B := [(b, Obj.cells #[.int .i64 f.id, .slice fa bl fc, .int .i64 fs] 89 (0, 0))]) (C := A3 ++ F) (by
                  rw [← hb, ← hbl, ← hfsd]
                  simpa [List.append_assoc] using hHr)
                simpa [List.append_assoc] using h1
              have H6 := Lib.hid hH6
              have HVA := Lib.hid hva
              have HB := Lib.hid hb
              have HBL := Lib.hid hbl
              have HFS := Lib.hid hfsd
              have HSV := Lib.hid h8
              have HSP := Lib.hid hs1
              have HPL := Lib.hid hpl
              have HA1 := Lib.hid h7
              have HA3 := Lib.hid h9
              have HMR := Lib.hid hMR
              have HL12 := Lib.hid hl12
              have HE2 := Lib.hid e2
              have HTK := Lib.hid htk
              have HPK1 := Lib.hid hpk
              have HI := Lib.hid hi
              have HFD := Lib.hid hfD
              have hmb : fs + pk ≤ bl := by omega
              have HSM : Hid (Pers P1 (fun w => SlB w (.slice fa (fs + pk) fc) (f.b.take (fs + pk)))) := fun w' hw' => by
                have h1 := SlB.cut (HSV.out w' hw') 0 (fs + pk) (by rw [Nat.zero_add, HBL.out]; omega)
                rw [List.drop_zero, Nat.sub_zero] at h1
                have : (if fc = 0 then fa else fa.map (fun x => x.add (0 * 1))) = fa := by cases fa <;> simp [Addr.add]
                rwa [this] at h1
              have HLMX : Hid ((f.b.take (fs + pk)).length ≤ 1099511627776) := by show _ ≤ _; rw [List.length_take, HBL.out]; omega
              have HLNX : Hid ((f.b.take (fs + pk)).length = fs + pk) := by show _ = _; rw [List.length_take, HBL.out]; omega
              have HW21 : Hid (IntKind.i64.wrap ((bl - fs : Nat) : Int) = (qd : Int)) := by show _ = _; rw [hqd]; exact IntWalk.i64_in _ (by omega)
              have HW21b : Hid (IntKind.i64.wrap ((bl : Int) - (fs : Int)) = (qd : Int)) := by show _ = _; rw [show (bl : Int) - (fs : Int) = (qd : Int) from by omega]; exact IntWalk.i64_in _ (by omega)
              have HW23 : Hid (IntKind.i64.wrap ((fs : Int) + (pk : Int)) = (fs : Int) + (pk : Int)) := IntWalk.i64_in _ (by omega)
              have HWI : Hid (IntKind.i64.wrap ((ix : Int) + 1) = (ix : Int) + 1) := IntWalk.i64_in _ (by omega)
              have hq2 : qd ≤ 1099511627776 := by omega
              have HPKL : Hid (pk ≤ f.b.length - f.s) := by show _ ≤ _; rw [hbl, hfsd]; omega
              have j1 : (ix : Int) < (ln : Int) := by omega
              have j2 : (0 : Int) ≤ (ix : Int) := by omega
              clear hH6 hHr hva hb hbl hfsd h8 hs1 hpl h7 h9 hMR hl12 e1 e2 htk hpk hi hfD hnd12 hsp hnin hf hqd hpkl hfm
              go_wp2_with fail
              refine wp_region_ph (by kernel_rfl) (by decide) 25 28 (by kernel_rfl) ⟨by decide, by decide⟩ (by decide) _ (fun p P w3 v => match p with | 2 => ∃ b2 c2, v = .slice b2 (fs + pk) c2 ∧ Pers P (fun w => SlB w (.slice b2 (fs + pk) c2) (f.b.take (fs + pk))) ∧ Hp w3 P ((b, Obj.cells #[.int .i64 f.id, .slice b2 (fs + pk) c2, .int .i64 fs] 89 (0, 0)) :: MR) | _ => Hp w3 P ((b, Obj.cells #[.int .i64 f.id, .slice fa bl fc, .int .i64 fs] 89 (0, 0)) :: MR)) (fun v => H6.out.drew) (fun i P v => match i with | 0 => v = ptr b | 1 => v = ptr b | 2 => v = ptr b | 3 => v = .pointer (some ⟨b, 1, none⟩) | 4 => v = .slice fa bl fc | 5 => v = ptr b | 6 => v = ptr b | 7 => v = .pointer (some ⟨b, 2, none⟩) | 8 => v = .int .i64 fs | 9 => v = .slice a pn pc | 10 => v = .int .i64 ix | 11 => v = .int .i64 ((ix : Int) + 1) | 12 => v = ptr b | 13 => v = ptr b | 14 => v = .pointer (some ⟨b, 1, none⟩) | 15 => v = .slice fa bl fc | 16 => v = .int .i64 bl | 17 => v = ptr b | 18 => v = ptr b | 19 => v = .pointer (some ⟨b, 2, none⟩) | 20 => v = .int .i64 fs | 21 => v = .int .i64 qd | 22 => v = .int .i64 pk | 23 => v = .int .i64 ((fs : Int) + (pk : Int)) | 24 => v = .slice fa (fs + pk) fc | 25 => ∃ b2 c2, v = .slice b2 (fs + pk) c2 ∧ Pers P (fun w => SlB w (.slice b2 (fs + pk) c2) (f.b.take (fs + pk))) | 26 => v = ptr b | 27 => v = .pointer (some ⟨b, 1, none⟩) | 28 => True | _ => True) (by intro i P P' v hs h; rcases i with _ | _ | _ | _ | _ | _ | _ | _ | _ | _ | _ | _ | _ | _ | _ | _ | _ | _ | _ | _ | _ | _ | _ | _ | _ | _ | _ | _ | _ | i <;> first | exact h | (obtain ⟨b2, c2, h1, h2⟩ := h; exact ⟨b2, c2, h1, h2.sub hs⟩)) ?_ ?_
              · intro i o ho b1 u w3 Q2 hsq hJ hp q1 q2 q3 q4 K hK
                rcases i with _ | _ | _ | _ | _ | _ | _ | _ | _ | _ | _ | _ | _ | _ | _ | _ | _ | _ | _ | _ | _ | _ | _ | _ | _ | _ | _ | _ | _ | i
                · cases ho
                  simp only [frOf, Act.put, List.setIfInBounds_toArray, List.set_cons_zero, List.set_cons_succ, Nat.zero_add, Nat.reduceAdd] at hK ⊢
                  go_simp
                  exact hK _ w3 Q2 (Sub.refl _) hJ rfl
                · cases ho
                  simp only [frOf, Act.put, List.setIfInBounds_toArray, List.set_cons_zero, List.set_cons_succ, Nat.zero_add, Nat.reduceAdd] at hK ⊢
                  go_simp
                  exact hK _ w3 Q2 (Sub.refl _) hJ rfl
                · cases ho
                  have h1 : u 1 = ptr b := hp ⟨1, .data⟩ (by simp) rfl
                  simp only [frOf, Act.put, List.setIfInBounds_toArray, List.set_cons_zero, List.set_cons_succ, Nat.zero_add, Nat.reduceAdd] at hK ⊢
                  simp only [h1] at hK ⊢
                  go_simp
                  exact hK _ w3 Q2 (Sub.refl _) hJ rfl
                · cases ho
                  have h2 : u 2 = ptr b := hp ⟨2, .data⟩ (by simp) rfl
                  simp only [frOf, Act.put, List.setIfInBounds_toArray, List.set_cons_zero, List.set_cons_succ, Nat.zero_add, Nat.reduceAdd] at hK ⊢
                  simp only [h2] at hK ⊢
                  go_simp
                  exact hK _ w3 Q2 (Sub.refl _) hJ rfl
                · cases ho
                  have h3 : u 3 = .pointer (some ⟨b, 1, none⟩) := hp ⟨3, .data⟩ (by simp) rfl
                  simp only [frOf, Act.put, List.setIfInBounds_toArray, List.set_cons_zero, List.set_cons_succ, Nat.zero_add, Nat.reduceAdd] at hK ⊢
                  simp only [h3] at hK ⊢
                  have hb2 : b1 = 0 ∨ b1 = 1 := by
                    have h2 : b1 ≠ 2 := fun e => nomatch ((q2 e).1.symm.trans (by kernel_rfl : _ = true))
                    omega
                  have hH3 : Hp w3 Q2 ((b, Obj.cells #[.int .i64 f.id, .slice fa bl fc, .int .i64 fs] 89 (0, 0)) :: MR) := by rcases hb2 with rfl | rfl <;> exact hJ
                  have kc := (@Hp.cell _ _ _ hH3 b _ _ (0, 0) List.mem_cons_self) (i := 1) rfl
                  go_simp
                  rcases hb2 with rfl | rfl <;> exact hK _ w3 Q2 (Sub.refl _) hJ rfl
                · cases ho
                  simp only [frOf, Act.put, List.setIfInBounds_toArray, List.set_cons_zero, List.set_cons_succ, Nat.zero_add, Nat.reduceAdd] at hK ⊢
                  go_simp
                  exact hK _ w3 Q2 (Sub.refl _) hJ rfl
                · cases ho
                  have h5 : u 5 = ptr b := hp ⟨5, .data⟩ (by simp) rfl
                  simp only [frOf, Act.put, List.setIfInBounds_toArray, List.set_cons_zero, List.set_cons_succ, Nat.zero_add, Nat.reduceAdd] at hK ⊢
                  simp only [h5] at hK ⊢
                  go_simp
                  exact hK _ w3 Q2 (Sub.refl _) hJ rfl
                · cases ho
                  have h6 : u 6 = ptr b := hp ⟨6, .data⟩ (by simp) rfl
                  simp only [frOf, Act.put, List.setIfInBounds_toArray, List.set_cons_zero, List.set_cons_succ, Nat.zero_add, Nat.reduceAdd] at hK ⊢
                  simp only [h6] at hK ⊢
                  go_simp
                  exact hK _ w3 Q2 (Sub.refl _) hJ rfl
                · cases ho
                  have h7 : u 7 = .pointer (some ⟨b, 2, none⟩) := hp ⟨7, .data⟩ (by simp) rfl
                  simp only [frOf, Act.put, List.setIfInBounds_toArray, List.set_cons_zero, List.set_cons_succ, Nat.zero_add, Nat.reduceAdd] at hK ⊢
                  simp only [h7] at hK ⊢
                  have hb2 : b1 = 0 ∨ b1 = 1 := by
                    have h2 : b1 ≠ 2 := fun e => nomatch ((q2 e).1.symm.trans (by kernel_rfl : _ = true))
                    omega
                  have hH3 : Hp w3 Q2 ((b, Obj.cells #[.int .i64 f.id, .slice fa bl fc, .int .i64 fs] 89 (0, 0)) :: MR) := by rcases hb2 with rfl | rfl <;> exact hJ
                  have kc := (@Hp.cell _ _ _ hH3 b _ _ (0, 0) List.mem_cons_self) (i := 2) rfl
                  go_simp
                  rcases hb2 with rfl | rfl <;> exact hK _ w3 Q2 (Sub.refl _) hJ rfl
                · cases ho
                  simp only [frOf, Act.put, List.setIfInBounds_toArray, List.set_cons_zero, List.set_cons_succ, Nat.zero_add, Nat.reduceAdd] at hK ⊢
                  go_simp
                  exact hK _ w3 Q2 (Sub.refl _) hJ rfl
                · cases ho
                  simp only [frOf, Act.put, List.setIfInBounds_toArray, List.set_cons_zero, List.set_cons_succ, Nat.zero_add, Nat.reduceAdd] at hK ⊢
                  go_simp
                  exact hK _ w3 Q2 (Sub.refl _) hJ rfl
                · cases ho
                  have h10 : u 10 = .int .i64 ix := hp ⟨10, .data⟩ (by simp) rfl
                  simp only [frOf, Act.put, List.setIfInBounds_toArray, List.set_cons_zero, List.set_cons_succ, Nat.zero_add, Nat.reduceAdd] at hK ⊢
                  simp only [h10] at hK ⊢
                  go_simp
                  exact hK _ w3 Q2 (Sub.refl _) hJ (by rw [HWI.out])
                · cases ho
                  simp only [frOf, Act.put, List.setIfInBounds_toArray, List.set_cons_zero, List.set_cons_succ, Nat.zero_add, Nat.reduceAdd] at hK ⊢
                  go_simp
                  exact hK _ w3 Q2 (Sub.refl _) hJ rfl
                · cases ho
                  have h12 : u 12 = ptr b := hp ⟨12, .data⟩ (by simp) rfl
                  simp only [frOf, Act.put, List.setIfInBounds_toArray, List.set_cons_zero, List.set_cons_succ, Nat.zero_add, Nat.reduceAdd] at hK ⊢
                  simp only [h12] at hK ⊢
                  go_simp
                  exact hK _ w3 Q2 (Sub.refl _) hJ rfl
                · cases ho
                  have h13 : u 13 = ptr b := hp ⟨13, .data⟩ (by simp) rfl
                  simp only [frOf, Act.put, List.setIfInBounds_toArray, List.set_cons_zero, List.set_cons_succ, Nat.zero_add, Nat.reduceAdd] at hK ⊢
                  simp only [h13] at hK ⊢
                  go_simp
                  exact hK _ w3 Q2 (Sub.refl _) hJ rfl
                · cases ho
                  have h14 : u 14 = .pointer (some ⟨b, 1, none⟩) := hp ⟨14, .data⟩ (by simp) rfl
                  simp only [frOf, Act.put, List.setIfInBounds_toArray, List.set_cons_zero, List.set_cons_succ, Nat.zero_add, Nat.reduceAdd] at hK ⊢
                  simp only [h14] at hK ⊢
                  have hb2 : b1 = 0 ∨ b1 = 1 := by
                    have h2 : b1 ≠ 2 := fun e => nomatch ((q2 e).1.symm.trans (by kernel_rfl : _ = true))
                    omega
                  have hH3 : Hp w3 Q2 ((b, Obj.cells #[.int .i64 f.id, .slice fa bl fc, .int .i64 fs] 89 (0, 0)) :: MR) := by rcases hb2 with rfl | rfl <;> exact hJ
                  have kc := (@Hp.cell _ _ _ hH3 b _ _ (0, 0) List.mem_cons_self) (i := 1) rfl
                  go_simp
                  rcases hb2 with rfl | rfl <;> exact hK _ w3 Q2 (Sub.refl _) hJ rfl
                · cases ho
                  have h15 : u 15 = .slice fa bl fc := hp ⟨15, .data⟩ (by simp) rfl
                  simp only [frOf, Act.put, List.setIfInBounds_toArray, List.set_cons_zero, List.set_cons_succ, Nat.zero_add, Nat.reduceAdd] at hK ⊢
                  simp only [h15] at hK ⊢
                  go_simp
                  exact hK _ w3 Q2 (Sub.refl _) hJ rfl
                · cases ho
                  simp only [frOf, Act.put, List.setIfInBounds_toArray, List.set_cons_zero, List.set_cons_succ, Nat.zero_add, Nat.reduceAdd] at hK ⊢
                  go_simp
                  exact hK _ w3 Q2 (Sub.refl _) hJ rfl
                · cases ho
                  have h17 : u 17 = ptr b := hp ⟨17, .data⟩ (by simp) rfl
                  simp only [frOf, Act.put, List.setIfInBounds_toArray, List.set_cons_zero, List.set_cons_succ, Nat.zero_add, Nat.reduceAdd] at hK ⊢
                  simp only [h17] at hK ⊢
                  go_simp
                  exact hK _ w3 Q2 (Sub.refl _) hJ rfl
                · cases ho
                  have h18 : u 18 = ptr b := hp ⟨18, .data⟩ (by simp) rfl
                  simp only [frOf, Act.put, List.setIfInBounds_toArray, List.set_cons_zero, List.set_cons_succ, Nat.zero_add, Nat.reduceAdd] at hK ⊢
                  simp only [h18] at hK ⊢
                  go_simp
                  exact hK _ w3 Q2 (Sub.refl _) hJ rfl
                · cases ho
                  have h19 : u 19 = .pointer (some ⟨b, 2, none⟩) := hp ⟨19, .data⟩ (by simp) rfl
                  simp only [frOf, Act.put, List.setIfInBounds_toArray, List.set_cons_zero, List.set_cons_succ, Nat.zero_add, Nat.reduceAdd] at hK ⊢
                  simp only [h19] at hK ⊢
                  have hb2 : b1 = 0 ∨ b1 = 1 := by
                    have h2 : b1 ≠ 2 := fun e => nomatch ((q2 e).1.symm.trans (by kernel_rfl : _ = true))
                    omega
                  have hH3 : Hp w3 Q2 ((b, Obj.cells #[.int .i64 f.id, .slice fa bl fc, .int .i64 fs] 89 (0, 0)) :: MR) := by rcases hb2 with rfl | rfl <;> exact hJ
                  have kc := (@Hp.cell _ _ _ hH3 b _ _ (0, 0) List.mem_cons_self) (i := 2) rfl
                  go_simp
                  rcases hb2 with rfl | rfl <;> exact hK _ w3 Q2 (Sub.refl _) hJ rfl
                · cases ho
                  have h16 : u 16 = .int .i64 bl := hp ⟨16, .data⟩ (by simp) rfl
                  have h20 : u 20 = .int .i64 fs := hp ⟨20, .data⟩ (by simp) rfl
                  simp only [frOf, Act.put, List.setIfInBounds_toArray, List.set_cons_zero, List.set_cons_succ, Nat.zero_add, Nat.reduceAdd] at hK ⊢
                  simp only [h16, h20] at hK ⊢
                  go_simp
                  exact hK _ w3 Q2 (Sub.refl _) hJ (by first | rw [HW21.out] | rw [HW21b.out])
                · cases ho
                  have h9 : u 9 = .slice a pn pc := hp ⟨9, .data⟩ (by simp) rfl
                  have h11 : u 11 = .int .i64 ((ix : Int) + 1) := hp ⟨11, .data⟩ (by simp) rfl
                  have h21 : u 21 = .int .i64 qd := hp ⟨21, .data⟩ (by simp) rfl
                  simp only [frOf, Act.put, List.setIfInBounds_toArray, List.set_cons_zero, List.set_cons_succ, Nat.zero_add, Nat.reduceAdd] at hK ⊢
                  simp only [h9, h11, h21] at hK ⊢
                  have hb2 : b1 = 0 ∨ b1 = 1 := by
                    have h2 : b1 ≠ 2 := fun e => nomatch ((q2 e).1.symm.trans (by kernel_rfl : _ = true))
                    omega
                  have hH3 : Hp w3 Q2 ((b, Obj.cells #[.int .i64 f.id, .slice fa bl fc, .int .i64 fs] 89 (0, 0)) :: MR) := by rcases hb2 with rfl | rfl <;> exact hJ
                  go_simp
                  with_reducible refine (picked_k _ a xs pn pc HPN.out (hH3.use ((HPK.out.sub HSP.out).sub hsq)) (ix + 1) qd hq2 _ ((ix : Int) + 1) rfl rfl).mono ?_
                  rintro e w4 ⟨rfl, rfl⟩
                  rw [HPK1.out]
                  rcases hb2 with rfl | rfl <;> exact hK _ _ Q2 (Sub.refl _) hJ rfl
                · cases ho
                  have h8 : u 8 = .int .i64 fs := hp ⟨8, .data⟩ (by simp) rfl
                  have h22 : u 22 = .int .i64 pk := hp ⟨22, .data⟩ (by simp) rfl
                  simp only [frOf, Act.put, List.setIfInBounds_toArray, List.set_cons_zero, List.set_cons_succ, Nat.zero_add, Nat.reduceAdd] at hK ⊢
                  simp only [h8, h22] at hK ⊢
                  go_simp
                  exact hK _ w3 Q2 (Sub.refl _) hJ (by rw [HW23.out])
                · cases ho
                  have h4 : u 4 = .slice fa bl fc := hp ⟨4, .data⟩ (by simp) rfl
                  have h23 : u 23 = .int .i64 ((fs : Int) + (pk : Int)) := hp ⟨23, .data⟩ (by simp) rfl
                  simp only [frOf, Act.put, List.setIfInBounds_toArray, List.set_cons_zero, List.set_cons_succ, Nat.zero_add, Nat.reduceAdd] at hK ⊢
                  simp only [h4, h23] at hK ⊢
                  have i5 : (0 : Int) ≤ (fs : Int) + (pk : Int) := by omega
                  have i6 : (fs : Int) + (pk : Int) ≤ (fc : Int) := by omega
                  go_simp
                  exact hK _ w3 Q2 (Sub.refl _) hJ (by rcases HVA.out with h | ⟨x, h⟩ <;> rw [h] <;> simp <;> omega)
                · cases ho
                  have h24 : u 24 = .slice fa (fs + pk) fc := hp ⟨24, .data⟩ (by simp) rfl
                  simp only [frOf, Act.put, List.setIfInBounds_toArray, List.set_cons_zero, List.set_cons_succ, Nat.zero_add, Nat.reduceAdd] at hK ⊢
                  simp only [h24] at hK ⊢
                  have hb2 : b1 = 0 := ph0 (fun h => (q1 h).2 rfl)
                  subst hb2
                  have hH3 : Hp w3 Q2 ((b, Obj.cells #[.int .i64 f.id, .slice fa bl fc, .int .i64 fs] 89 (0, 0)) :: MR) := hJ
                  go_simp
                  with_reducible refine (clone_any _ (f.b.take (fs + pk)) _ (hH3.use (HSM.out.sub hsq)) HLMX.out).mono ?_
                  rintro e w4 ⟨⟨v4, rfl, ho4, -⟩, hb4⟩
                  obtain ⟨Q4, hs4, hH4, hp4⟩ := hH3.newBytes hb4 ho4
                  obtain ⟨b2, c2, hv4, -⟩ := (hH4.use hp4).shape
                  rw [HLNX.out] at hv4
                  subst hv4
                  exact hK _ w4 Q4 hs4 hH4 ⟨b2, c2, rfl, hp4⟩
                · cases ho
                  have h0 : u 0 = ptr b := hp ⟨0, .data⟩ (by simp) rfl
                  simp only [frOf, Act.put, List.setIfInBounds_toArray, List.set_cons_zero, List.set_cons_succ, Nat.zero_add, Nat.reduceAdd] at hK ⊢
                  simp only [h0] at hK ⊢
                  go_simp
                  exact hK _ w3 Q2 (Sub.refl _) hJ rfl
                · cases ho
                  have h26 : u 26 = ptr b := hp ⟨26, .data⟩ (by simp) rfl
                  simp only [frOf, Act.put, List.setIfInBounds_toArray, List.set_cons_zero, List.set_cons_succ, Nat.zero_add, Nat.reduceAdd] at hK ⊢
                  simp only [h26] at hK ⊢
                  go_simp
                  exact hK _ w3 Q2 (Sub.refl _) hJ rfl
                · cases ho
                  have h27 : u 27 = .pointer (some ⟨b, 1, none⟩) := hp ⟨27, .data⟩ (by simp) rfl
                  have hr25 : ∃ b2 c2, u 25 = .slice b2 (fs + pk) c2 ∧ Pers Q2 (fun w => SlB w (.slice b2 (fs + pk) c2) (f.b.take (fs + pk))) := hp ⟨25, .data⟩ (by simp) rfl
                  simp only [frOf, Act.put, List.setIfInBounds_toArray, List.set_cons_zero, List.set_cons_succ, Nat.zero_add, Nat.reduceAdd] at hK ⊢
                  have hb2 : b1 = 1 := ph1 (q3 (by kernel_rfl)) (fun e => (q2 e).2 rfl) q4
                  subst hb2
                  have hH3 : Hp w3 Q2 ((b, Obj.cells #[.int .i64 f.id, .slice fa bl fc, .int .i64 fs] 89 (0, 0)) :: MR) := hJ
                  obtain ⟨b2, c2, h25, hp25⟩ := hr25
                  simp only [Nat.reduceEqDiff, if_true, if_false] at hK
                  simp only [h27, h25] at hK ⊢
                  have f1 := @Hp.frozen _ _ _ hH3 b _ _ List.mem_cons_self 1
                  have kc := (@Hp.cell _ _ _ hH3 b _ _ (0, 0) List.mem_cons_self) (i := 1) rfl
                  go_simp
                  exact hK undef _ Q2 (Sub.refl _) ⟨b2, c2, rfl, hp25, hH3.set 1 (.slice b2 (fs + pk) c2)⟩ trivial
                · exact absurd ho (by simp)
              intro u w3 Q2 hsq hJ hR
              obtain ⟨b2, c2, h25, hp25, hH4⟩ := hJ
              simp only [frOf, List.setIfInBounds_toArray, List.set_cons_zero, List.set_cons_succ, Nat.zero_add, Nat.reduceAdd]
              skip
              have e1 := (@Hp.cell _ _ _ hH4 b _ _ (0, 0) List.mem_cons_self) (i := 1) rfl
              have e2 := (@Hp.cell _ _ _ hH4 b _ _ (0, 0) List.mem_cons_self) (i := 2) rfl
              have f2 := @Hp.frozen _ _ _ hH4 b _ _ List.mem_cons_self 2
              have H8 := Lib.hid hH4
              have HP8 := Lib.hid hp25
              have HS8 := Lib.hid hsq
              clear hR hp25 hH4 hsq h25
              go_wp2_with fail
              go_roundg gj
              case measure => have := HI.out; omega
              case rel =>
                refine ⟨ix + 1, fun x => if x = f.blk then pk else p x, Q2, A1 ++ ((b, Obj.cells #[.int .i64 f.id, .slice b2 (fs + pk) c2, .int .i64 ((fs + pk : Nat) : Int)] 89 (0, 0)) :: A3), by have := HI.out; omega, by simp, HSP.out.trans HS8.out, fun g hg => ?_, ?_, ?_⟩
                · dsimp only
                  split
                  · rename_i he
                    have : g = f := by
                      have h1 := ffind_of_mem HND.out hg
                      have h2 := ffind_of_mem HND.out HFD.out
                      rw [he, h2] at h1
                      exact (Option.some.inj h1).symm
                    rw [this]; exact HPKL.out
                  · exact HPL.out g hg
                · rw [HTK.out, HL12.out, HE2.out]
                  exact (HA1.out.sub HS8.out).join ⟨.slice b2 (fs + pk) c2, A3, by rw [HB.out, HFS.out], by rw [HFS.out]; exact HP8.out, HA3.out.sub HS8.out⟩
                · have h1 := H8.out.set 2 (.int .i64 ((fs + pk : Nat) : Int))
                  rw [HMR.out] at h1
                  have h2 := Hp.mid (A := [(b, Obj.cells #[.int .i64 f.id, .slice b2 (fs + pk) c2, .int .i64 ((fs + pk : Nat) : Int)] 89 (0, 0))]) (B := Ap ++ (Rt ++ A1)) (C := A3 ++ F) (by simpa [List.append_assoc] using h1)
                  simpa [List.append_assoc] using h2
            · have hil : ix = L.length := by have := HLN2.out; omega
              have e0 : (L.take ix).map (·.blk) = L.map (·.blk) := by rw [hil, List.take_length]
              have hcf : cutF p ((L.take ix).map (·.blk)) = cutF p (kq.map (·.2)) := by rw [e0]; exact cutF_congr p HLALL.out
              rw [hcf] at hfm
              have HFMX := Lib.hid hfm
              have HPLX := Lib.hid hpl
              have HS1X := Lib.hid hs1
              have hH4 : Hp wr P1 ((d, Obj.cells dc 82 (0, 0)) :: ((kb, ko1) :: (nb, no) :: (Ap ++ (Ac ++ (Af1 ++ F))))) := by
                have h1 := hHr
                rw [HRT.out] at h1
                have h2 := Hp.mid (A := Ap) (B := [(kb, ko1), (d, Obj.cells dc 82 (0, 0)), (nb, no)]) (C := Ac ++ (Af1 ++ F)) (by simpa [List.append_assoc] using h1)
                exact (show Hp wr P1 ((kb, ko1) :: (d, Obj.cells dc 82 (0, 0)) :: (nb, no) :: (Ap ++ (Ac ++ (Af1 ++ F)))) from h2).pick 1 rfl
              rw [← HDC.out] at hH4
              have k2 : wr.cell? ⟨d, 2, none⟩ = some (.map (some kb)) := (@Hp.cell _ _ _ hH4 d (dkCells D nb kb (.slice ca D.ch.length cc)) 82 (0, 0) (by simp)) (i := 2) rfl
              have hH5 := hH4.alloc ko1
              have ex := @Hp.cell _ _ _ hH5 d (dkCells D nb kb (.slice ca D.ch.length cc)) 82 (0, 0) (by simp)
              have e1 : (wr.alloc ko1).cell? ⟨d, 1, none⟩ = some (.map (some nb)) := ex rfl
              have e3 : (wr.alloc ko1).cell? ⟨d, 3, none⟩ = some (.slice ca D.ch.length cc) := ex rfl
              have e5 : (wr.alloc ko1).cell? ⟨d, 5, none⟩ = some (.int .i64 D.arm) := ex rfl
              have e6 : (wr.alloc ko1).cell? ⟨d, 6, none⟩ = some (.bool D.down) := ex rfl
              have fx := @Hp.frozen _ _ _ hH5 d (dkCells D nb kb (.slice ca D.ch.length cc)) 82 (by simp)
              have f1 := fx 1
              have f3 := fx 3
              have f5 := fx 5
              have f6 := fx 6
              have H4 := Lib.hid hH4
              have H5 := Lib.hid hH5
              clear hH4 hH5 ex fx hHr hfm hpl hs1 hcf e0 hil
              go_wp2_with fail
              refine (mclone_any H4.out (b := kb) (o := ko1) (by simp) HMO.out).mono ?_
              rintro e w5 ⟨rfl, rfl⟩
              go_wp2_with fail
              go_end0
              have hg1 := (Hp.mid (A := [(wr.heap.size, ko1)]) (B := [(d, Obj.cells (dkCells D nb kb (.slice ca D.ch.length cc)) 82 (0, 0))]) (C := (kb, ko1) :: (nb, no) :: (Ap ++ (Ac ++ (Af1 ++ F)))) (by simpa using H5.out))
              have hg2 := (((hg1.set 1 (.map (some wr.heap.size))).set 3 (.slice none 0 0)).set 5 (.int .i64 0)).set 6 (.bool false)
              have hg3 := (Hp.mid (A := [_, (wr.heap.size, ko1), (kb, ko1)]) (B := (nb, no) :: (Ap ++ Ac)) (C := Af1 ++ F) (by simpa [List.append_assoc] using hg2)).drop
              refine ⟨rfl, p, P1, (d, Obj.cells (dkCells (D.crash k p) wr.heap.size kb (.slice none 0 0)) 82 (0, 0)) :: (wr.heap.size, ko1) :: (kb, ko1) :: ([] ++ Af1), HPLX.out, HS1X.out, ⟨wr.heap.size, ko1, kb, ko1, .slice none 0 0, [], Af1, rfl, ?_, ?_, rowM_nil _ _, ?_, Nat.zero_le _, ?_⟩, ?_⟩
              · show MapO 9 ko1 (kvOf (D.keptA k)); rw [HKQ.out]; exact HMO.out
              · show MapO 9 ko1 (kvOf (D.keptA k)); rw [HKQ.out]; exact HMO.out
              · show FlsM P1 (D.fl.map (cutF p ((D.keptA k).map (·.2)))) Af1; rw [HKQ.out]; exact HFMX.out
              · intro x hx
                obtain ⟨y, hy, hxy⟩ := List.mem_map.1 (show x ∈ D.fl.map (cutF p ((D.keptA k).map (·.2))) from hx)
                obtain ⟨o1, o2⟩ := HFO.out y hy
                have o3 := HPLX.out y hy
                rw [← hxy]
                unfold cutF
                split
                · refine ⟨o1, ?_⟩
                  show y.s + p y.blk ≤ (y.b.take (y.s + p y.blk)).length
                  rw [List.length_take]; omega
                · exact ⟨o1, o2⟩
              · simpa [dkCells, Dk.crash] using hg3
        · intro x v1 kl w1 cnt1 hk hl hf hrg1 hlt2 hH1 hen
          obtain rfl := keyStr x kl hk
          rw [kfind_kv] at hf
          obtain ⟨b', hb', rfl⟩ := Option.map_eq_some_iff.1 hf
          obtain ⟨s, hs⟩ : ∃ s, x.data.toList = s := ⟨_, rfl⟩
          rw [hs] at hl hb' hrg1
          have hmem := nfind_mem hb'
          have hnb : b' ∉ acc := fun hm => by
            obtain ⟨p, hp, hpl, hpb⟩ := (hacc b').1 hm
            have := inj_list HKQI.out hmem (s' := p.1) (by rw [← hpb]; exact hp)
            rw [this, hpl] at hl; cases hl
          have hobj : ∀ y, y ∈ b' :: acc → ∃ c t, w1.heap[y]? = some (.cells c t (0, 0)) := fun y hy => by
            have hy2 : y ∈ kq.map (·.2) := by
              rcases List.mem_cons.1 hy with rfl | hy
              · exact List.mem_map.2 ⟨_, hmem, rfl⟩
              · obtain ⟨p, hp, -, e⟩ := (hacc y).1 hy
                exact List.mem_map.2 ⟨p, hp, e⟩
            obtain ⟨f, hf1, rfl⟩ := HFILE.out y hy2
            obtain ⟨z, hz⟩ := HCELL.out f hf1
            exact ⟨_, _, hH1.own _ (List.mem_append_right _ hz)⟩
          obtain ⟨na, hna⟩ : ∃ n, acc.length = n := ⟨_, rfl⟩
          have hptr : PtrsR w1 (.slice va acc.length vc) acc := by
            refine ⟨va, vc, rfl, fun j y hj => ?_⟩
            obtain ⟨g, c, h1, -, h2⟩ := RowM.cell hrow hH1 (j := j) (u := ptr y) (by rw [List.getElem?_map, hj]; rfl)
            simp only [Value.slice.injEq] at h1
            exact ⟨g, h1.1, h2⟩
          have hcont := contains_no w1 _ acc hptr b' hnb hobj (by omega)
          have hacc2 : ∀ b, b ∈ acc ++ [b'] ↔ ∃ p, p ∈ kq ∧ (left (.string p.1) && !(Lit.string p.1).sameKey (.string s)) = false ∧ p.2 = b := fun b => by
            rw [List.mem_append, List.mem_singleton, hacc]
            constructor
            · rintro (⟨p, h1, h2, h3⟩ | rfl)
              · exact ⟨p, h1, by rw [h2]; rfl, h3⟩
              · exact ⟨(s, b), hmem, by simp [Lit.sameKey], rfl⟩
            · rintro ⟨p, h1, h2, h3⟩
              cases h4 : left (.string p.1) with
              | false => exact .inl ⟨p, h1, h4, h3⟩
              | true =>
                right
                rw [h4, Bool.true_and] at h2
                have h5 : p.1 = s := by simpa [Lit.sameKey] using h2
                have h6 := key_one HKWN.out h1 hmem h5
                rw [← h3, h6]
          have hnd2 : (acc ++ [b']).Nodup := by
            rw [List.nodup_append]
            exact ⟨hnda, by simp, fun y hy z hz => by rw [List.mem_singleton.1 hz]; exact fun e => hnb (by rw [← e]; exact hy)⟩
          have HCONT := Lib.hid hcont
          have HACC2 := Lib.hid hacc2
          have HND2 := Lib.hid hnd2
          have HNA := Lib.hid hna
          have H2 := Lib.hid hH1
          have HRG := Lib.hid hrg1
          have HROW := Lib.hid hrow
          have HX2 := Lib.hid x2
          have HX3 := Lib.hid x3
          have hna2 : na + gk ≤ kq.length := by rw [← hna]; exact hcnt
          clear hk hl hf hb' hrg hHr hrg1 hH1 hmem hnb hobj hptr hcont hacc2 hnd2 hacc hnda hcnt hrow x1 x2 x3 hnotin hs
          rw [hna] at HCONT HROW HX2 HX3 ⊢
          clear hna
          go_wp2_with fail
          refine HCONT.out.mono ?_
          rintro e w3 ⟨rfl, rfl⟩
          go_wp2_with (at_builtin; refine wpList_push_g rfl _ _ _ rfl 86 _ 1 8 Tryz.underlying128 infoFp rfl (by omega) (.slice va na vc) na (acc.map ptr) rfl (A := Al) H2.out HROW.out #[ptr b'] rfl rfl (by intro u hu; simp at hu; subst hu; rfl) (by omega) (by omega) ?_)
          intro g7 c7 w7 A7 hr7 hH7 hgr7
          have H7 := Lib.hid hH7
          have HR7 := Lib.hid hr7
          have HRG7 := Lib.hid ((HRG.out.alloc _).kept hgr7 HX2.out HX3.out)
          clear hr7 hH7 hgr7
          go_wp2_with fail
          go_roundg cnt1
          case measure => omega
          case rel => exact ⟨_, A7, acc ++ [b'], HRG7.out, by rw [List.length_append, List.length_singleton, HNA.out, List.map_append]; exact HR7.out, HND2.out, HACC2.out, by rw [List.length_append, List.length_singleton, HNA.out]; omega, H7.out⟩
end
end Go.Proofs.YtncjffkpkmjgkaaGreatDoor.Sg

/-! Ye -/
namespace Go.Proofs.YtncjffkpkmjgkaaGreatDoor.Sg
open Go.RowKit Er Go.Maps

theorem crash_un (D : Dk) (q : Nat) (p : Nat → Nat) : D.un.crash q p = D.crash q p := rfl
theorem keptA_un (D : Dk) (q : Nat) : D.un.keptA q = D.keptA q := rfl

theorem allSum_le (F G : Nam × Nat → Nat) : ∀ m : List (Nam × Nat), (∀ x, x ∈ m → F x ≤ G x) → allSum F m ≤ allSum G m
  | [], _ => Nat.le_refl _
  | x :: m, h => by
    have h1 := allSum_le F G m (fun y hy => h y (List.mem_cons_of_mem _ hy))
    have h2 := h x List.mem_cons_self
    unfold allSum at h1 ⊢
    rw [List.map_cons, List.map_cons, List.sum_cons, List.sum_cons]
    omega
theorem flen_cut (p : Nat → Nat) (bs : List Nat) (fl : List Fl) (x : Nam × Nat) : flen (fl.map (cutF p bs)) x ≤ flen fl x := by
  unfold flen
  rw [ffind_cutF]
  cases ffind fl x.2 with
  | none => exact Nat.le_refl _
  | some f =>
    simp only [Option.map_some, Option.getD_some]
    unfold cutF
    split
    · simp only [List.length_take]; exact Nat.min_le_right _ _
    · exact Nat.le_refl _

/-- A log all of whose segments are kept, behind a crash: those ahead, as they are. -/
theorem HotOn.crashed {D : Dk} {H : Hl} {b0 : Int} {l : List Bt} {L1 L2 : List (Nat × Sg)} (h : HotOn D H b0 l) (hall : ∀ p, p ∈ H.L → p.2.kept = sizes p.2.l) (hL : H.L = L1 ++ L2) {D2 : Dk} {q : Nat} {p : Nat → Nat} (hW : DkW D2) (hnm : D2.keptA q = (D.rems (revNm L2)).nm) (hfl : D2.fl = D.fl) (hn : D2.n = D.n) (hr : D2.room = D.room) (hp : ∀ f, f ∈ D2.fl → p f.blk ≤ f.b.length - f.s) :
    HotOn (D2.crash q p) { H with L := L1 } b0 ((L1.map (·.2.l)).flatten) := by
  have hR := h.remd hL
  have hlk : ∀ s, (D2.crash q p).look s = ((D.rems (revNm L2)).look s).map fun f => { f with b := f.b.take (f.s + p f.blk), s := f.s + p f.blk } := fun s => by
    rw [crash_look, hnm, hfl]
    unfold Dk.look
    rw [hR.fl]
    cases nfind (D.rems (revNm L2)).nm s with
    | none => rfl
    | some b => rfl
  have hI : DkI (D2.crash q p) := ⟨crash_W hW q p, by show ((D2.keptA q).map _).Nodup; rw [hnm]; exact hR.I.nd, by show ((D2.keptA q).map _).Nodup; rw [hnm]; exact hR.I.inj, rfl, rfl⟩
  have hu : (D2.crash q p).used ≤ D.used := by
    refine Nat.le_trans ?_ hR.used
    show allSum (flen (D2.fl.map (cutF p ((D2.keptA q).map (·.2))))) (D2.keptA q) ≤ allSum (flen (D.rems (revNm L2)).fl) (D.rems (revNm L2)).nm
    rw [hnm, hfl, hR.fl]
    exact allSum_le _ _ _ (fun x _ => flen_cut _ _ _ _)
  refine h.less hL hI hr hu hn rfl rfl (fun x hx => ?_) (fun s' hs' => ?_) (by show (D2.keptA q).length = _; rw [hnm]; exact h.remd_len hL)
  · have hxm : x ∈ H.L := by rw [hL]; exact List.mem_append_left _ hx
    obtain ⟨f, f1, f2, f3⟩ := (h.sg x hxm).1.f
    have hfl2 : f.b.length = f.s := by rw [f2, flatB_len, f3, hall x hxm]
    have hpf := hp f (by rw [hfl]; exact (ffind_mem (look_some f1).2).1)
    rw [hlk, h.remd_look hL hx, f1]
    have hp0 : p f.blk = 0 := by omega
    simp only [Option.map_some, hp0, Nat.add_zero]
    rw [← hfl2, List.take_length]
    rw [hfl2]
  · rw [hlk, hR.lk]
    split
    · rfl
    · rename_i hno
      rw [h.only s' (fun x hx => ?_)]
      · rfl
      · rw [hL] at hx
        rcases List.mem_append.1 hx with hx | hx
        · exact hs' x hx
        · exact fun e => hno (mem_revNm.2 ⟨x, hx, e⟩)

/-! ### which names are kept -/
theorem rems_nm : ∀ (ns : List Nam) (D : Dk), (∀ s, s ∈ ns → s ≠ []) → (ns.map fun s => (⟨[], s, none⟩ : Ch)).foldl chg D.nm = (D.rems ns).nm
  | [], _, _ => rfl
  | s :: ns, D, h => by
    rw [List.map_cons, List.foldl_cons]
    have hs := h s List.mem_cons_self
    have e : chg D.nm ⟨[], s, none⟩ = (D.remove s).nm := by rw [remove_nm s hs]; unfold chg; simp [hs]
    rw [e]
    exact rems_nm ns (D.remove s) (fun x hx => h x (List.mem_cons_of_mem _ hx))
theorem revNm_take (L2 : List (Nat × Sg)) (q : Nat) : ∃ La Lb, L2 = La ++ Lb ∧ (revNm L2).take q = revNm Lb := by
  refine ⟨L2.take (L2.length - q), L2.drop (L2.length - q), (List.take_append_drop _ _).symm, ?_⟩
  unfold revNm
  rw [List.take_reverse, List.length_map, List.map_drop]
section
variable {D D2 : Dk} {H : Hl} {b0 : Int} {l : List Bt} {L1 L2 : List (Nat × Sg)}
/-- Nothing was changed. -/
theorem HotOn.kept_same (h : HotOn D H b0 l) (he : D2.un = D) (q : Nat) : D2.keptA q = (D.rems (revNm [])).nm := by
  have h1 : D2.ch = [] := by
    have := h.c0
    rw [← he] at this
    exact List.eq_nil_of_length_eq_zero this
  have h2 : D2.kp = D.nm := by
    have := h.kp
    rw [← he] at this ⊢
    exact this
  unfold Dk.keptA
  rw [h1, h2, List.take_nil]
  rfl
/-- Segments were let be none, and that is kept. -/
theorem HotOn.kept_sdir (he : D2.un = (D.rems (revNm L2)).sdir) (q : Nat) : D2.keptA q = (D.rems (revNm L2)).nm := by
  have h1 : D2.ch = [] := by have := congrArg Dk.ch he; exact this
  have h2 : D2.kp = (D.rems (revNm L2)).nm := by have := congrArg Dk.kp he; exact this
  unfold Dk.keptA
  rw [h1, h2, List.take_nil]
  rfl
/-- .. or not yet. -/
theorem HotOn.kept_rems (h : HotOn D H b0 l) (hL : H.L = L1 ++ L2) (he : D2.un = D.rems (revNm L2)) (q : Nat) : ∃ La Lb, L2 = La ++ Lb ∧ D2.keptA q = (D.rems (revNm Lb)).nm := by
  obtain ⟨La, Lb, e1, e2⟩ := revNm_take L2 q
  refine ⟨La, Lb, e1, ?_⟩
  have hR := h.remd hL
  have h0 := List.eq_nil_of_length_eq_zero h.c0
  have h1 : D2.ch = (revNm L2).map fun s => ⟨[], s, none⟩ := by
    have := congrArg Dk.ch he
    have h2 := hR.ch
    rw [h0, List.nil_append] at h2
    exact this.trans h2
  have h2 : D2.kp = D.nm := by
    have := congrArg Dk.kp he
    exact (this.trans hR.kp).trans h.kp
  unfold Dk.keptA
  rw [h1, h2, ← List.map_take, e2]
  refine rems_nm (revNm Lb) D (fun s hs => ?_)
  obtain ⟨x, hx, rfl⟩ := mem_revNm.1 hs
  exact h.nm0 (by rw [hL, e1]; exact List.mem_append_right _ (List.mem_append_right _ hx))
end
/-- A log that was flushed. -/
theorem HotOn.whole {D : Dk} {H : Hl} {b0 : Int} {l : List Bt} {L0 : List (Nat × Sg)} {s : Nat} {G : Sg} (h : HotOn D H b0 l) (hL : H.L = L0 ++ [(s, G)]) (hG : G.kept = sizes G.l) : ∀ p, p ∈ H.L → p.2.kept = sizes p.2.l := by
  have hk := h.lk
  rw [hL, List.map_append] at hk
  have hf := hk.full (by simp)
  intro p hp
  rw [hL] at hp
  rcases List.mem_append.1 hp with hp | hp
  · exact (hf p.2 (List.mem_map.2 ⟨p, hp, rfl⟩)).2
  · rw [List.mem_singleton.1 hp]; exact hG
end Go.Proofs.YtncjffkpkmjgkaaGreatDoor.Sg
