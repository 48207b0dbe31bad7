/- A segment on a disk; Append in the good case, once more; made. What a read tells: its plain laws. Read in range, once more; first; integers that came in. -/
import Derived.Test.YtncjffkpkmjgkaaGreatDoorMe
import Derived.Test.YtncjffkpkmjgkaaGreatDoorMd

/-! Gj -/
namespace Go.Proofs.YtncjffkpkmjgkaaGreatDoor.Sg
open Go.RowKit Er Go.Maps

theorem szB_low (x : Bt) : 22 ≤ szB x := by
  have := batB_len x
  have h : 14 ≤ (bodyB x).length := by simp [bodyB, headB, leB_len]; omega
  unfold szB; omega
theorem sizes_low : ∀ l : List Bt, 22 * l.length ≤ sizes l
  | [] => by simp
  | x :: l => by
    have h1 := szB_low x
    have h2 := sizes_low l
    simp only [sizes, List.map_cons, List.sum_cons, List.length_cons] at h2 ⊢
    omega

/-- A segment whose file is on a disk. -/
structure SegOn (D : Dk) (G : Sg) : Prop where
  I : DkI D
  ok : ∀ x, x ∈ G.l → BtOk x
  by_ : ∀ x, x ∈ G.l → BtBy x
  base : G.base ≤ 1099511627776
  nm : G.nm.length ≤ 1000
  f : ∃ f, D.look G.nm = some f ∧ f.b = flatB G.l ∧ f.s = G.kept
  room : D.room ≤ 4194304
  used : D.used ≤ D.room

theorem used_ge {D : Dk} {s : Nam} {f : Fl} (h : D.look s = some f) : f.b.length ≤ D.used := by
  obtain ⟨h1, h2⟩ := look_some h
  have hm := nfind_mem h1
  have e1 : flen D.fl (s, f.blk) = f.b.length := by simp [flen, h2]
  rw [← e1]
  unfold Dk.used allSum
  generalize D.nm = m at hm
  induction m with
  | nil => cases hm
  | cons p l ih =>
    rw [List.map_cons, List.sum_cons]
    rcases List.mem_cons.1 hm with rfl | hm
    · omega
    · have := ih hm; omega
theorem SegOn.size {D : Dk} {G : Sg} (h : SegOn D G) : sizes G.l ≤ 4194304 := by
  obtain ⟨f, h1, h2, -⟩ := h.f
  have h3 := used_ge h1
  have := h.room; have := h.used
  rw [h2, flatB_len] at h3
  omega
theorem SegOn.W {D : Dk} {G : Sg} (h : SegOn D G) : SgW G :=
  ⟨h.ok, h.by_, h.base, by have := h.size; have := sizes_low G.l; omega, by have := h.size; omega⟩

section
variable {S : List Nat} {E : Nat → Addr} {B : Nat} {P : Pm} {s d : Nat} {G : Sg} {D : Dk} {A Ad F : Mm} {w : World}

theorem sappend_on (C : Ctx S E B P) (hG : SgM s G A) (hO : SegOn D G) (hD : DkM P G.d D Ad) (x : Bt) (hok : BtOk x) (hby : BtBy x) (v : Value) (hv : Pers P (fun w => BtV w v x)) (hf : G.foll x = true)
    (hroom : D.used + szB x ≤ D.room) (hH : Hp w P (A ++ (Ad ++ F))) :
    Calls Tryz.prog 91 #[ptr s, v] w fun e w' => e = .returned .nilIface ∧ ∃ P' A' Ad' D', Sub P P' ∧ SgM s (G.push x) A' ∧ DkM P' G.d D' Ad' ∧ SegOn D' (G.push x) ∧ DkSame D D' ∧ D'.used = D.used + szB x ∧
      (∀ s', s' ≠ G.nm → D'.look s' = D.look s') ∧ Hp w' P' (A' ++ (Ad' ++ F)) := by
  obtain ⟨f, h1, h2, h3⟩ := hO.f
  have hlen : f.b.length ≤ D.used := used_ge h1
  have hr := hO.room
  have hu := hO.used
  refine (sappend_ok C hG hO.W hD hO.I.w x hok hby v hv hf (by have := hO.nm; omega) f.blk (hO.I.find_ok h1) f (look_some h1).2 (by omega) hroom (by omega) hH).mono ?_
  rintro e w' ⟨rfl, P', A', Ad', hs, hG', hD', hH'⟩
  have hus := app_used hO.I h1 (batB x)
  have hsame := app_same hO.I f (batB x)
  refine ⟨rfl, P', A', Ad', _, hs, hG', hD', ⟨app_I hO.I f (batB x), ?_, ?_, hO.base, hO.nm, ⟨{ f with b := f.b ++ batB x }, ?_, ?_, h3⟩, ?_, ?_⟩, hsame, hus, fun s' hne => ?_, hH'⟩
  · intro y hy
    rcases List.mem_append.1 hy with hy | hy
    · exact hO.ok y hy
    · rw [List.mem_singleton.1 hy]; exact hok
  · intro y hy
    rcases List.mem_append.1 hy with hy | hy
    · exact hO.by_ y hy
    · rw [List.mem_singleton.1 hy]; exact hby
  · show (D.app f (batB x)).look G.nm = _
    rw [app_look hO.I h1, if_pos rfl]
  · show f.b ++ batB x = flatB (G.l ++ [x])
    rw [flatB_app, h2]; simp [flatB]
  · rw [hsame.room]; exact hr
  · rw [hsame.room, hus]; exact hroom
  · rw [app_look hO.I h1, if_neg hne]

/-! ### where batches end -/
def endOf (b : Int) (l : List Bt) : Int := match l.getLast? with | none => b | some x => x.b + x.r.length
def epOf (e : Int) (l : List Bt) : Int := match l.getLast? with | none => e | some x => x.e
theorem endOf_snoc (b : Int) (l : List Bt) (x : Bt) : endOf b (l ++ [x]) = x.b + x.r.length := by simp [endOf]
theorem epOf_snoc (e : Int) (l : List Bt) (x : Bt) : epOf e (l ++ [x]) = x.e := by simp [epOf]
theorem endOf_cons (b : Int) (x : Bt) (l : List Bt) : endOf b (x :: l) = endOf (x.b + x.r.length) l := by
  rcases lastCases l with rfl | ⟨l0, y, rfl⟩
  · rfl
  · rw [← List.cons_append, endOf_snoc, endOf_snoc]
theorem epOf_cons (e : Int) (x : Bt) (l : List Bt) : epOf e (x :: l) = epOf x.e l := by
  rcases lastCases l with rfl | ⟨l0, y, rfl⟩
  · rfl
  · rw [← List.cons_append, epOf_snoc, epOf_snoc]
theorem chain_app : ∀ (l m : List Bt) (b e : Int), Chain b e (l ++ m) ↔ Chain b e l ∧ Chain (endOf b l) (epOf e l) m
  | [], m, b, e => ⟨fun h => ⟨trivial, h⟩, fun h => h.2⟩
  | x :: l, m, b, e => by
    rw [endOf_cons, epOf_cons]
    constructor
    · rintro ⟨h1, h2, h3⟩
      have := (chain_app l m _ _).1 h3
      exact ⟨⟨h1, h2, this.1⟩, this.2⟩
    · rintro ⟨⟨h1, h2, h3⟩, h4⟩
      exact ⟨h1, h2, (chain_app l m _ _).2 ⟨h3, h4⟩⟩
theorem end_eq (G : Sg) : G.end_ = endOf G.base G.l := rfl
theorem lastE_eq (G : Sg) : G.lastE = epOf 0 G.l := rfl
theorem foll_chain {G : Sg} {m : List Bt} {x : Bt} {b e : Int} (hb : b = G.base) (he : e = 0) {l : List Bt} (hl : G.l = l) (h : Chain b e (l ++ x :: m)) : G.foll x = true := by
  subst hb he hl
  obtain ⟨h1, h2, -⟩ := ((chain_app G.l (x :: m) _ _).1 h).2
  unfold Sg.foll
  rw [end_eq, lastE_eq]
  simp [h1, h2]
theorem take_next {α : Type} (l : List α) (k : Nat) (h : k < l.length) : l.take (k + 1) = l.take k ++ [l[k]] := by
  rw [List.take_add_one, List.getElem?_eq_getElem h]; rfl
theorem take_split {α : Type} (l : List α) (k : Nat) (h : k < l.length) : l.take k ++ l[k] :: l.drop (k + 1) = l := by
  rw [← List.drop_eq_getElem_cons h, List.take_append_drop]
theorem sizes_take (l : List Bt) (k : Nat) (h : k < l.length) : sizes (l.take k) + szB l[k] ≤ sizes l := by
  have e : sizes l = sizes (l.take k ++ l[k] :: l.drop (k + 1)) := by rw [take_split l k h]
  rw [e, sizes_app]
  simp only [sizes, List.map_cons, List.sum_cons]
  omega

/-- What holds at the head of made's loop. -/
def MadeRel (P : Pm) (F : Mm) (d s base every : Nat) (L : List Bt) (m : Nat) (vi : Value) (w : World) : Prop :=
  ∃ (k : Nat) (P' : Pm) (A Ad : Mm) (D : Dk), k + m = L.length ∧ vi = .int .i64 k ∧ Sub P P' ∧ SgM s ⟨d, segNm base, base, every, L.take k, 0⟩ A ∧ DkM P' d D Ad ∧ SegOn D ⟨d, segNm base, base, every, L.take k, 0⟩ ∧
    D.room = 1048576 ∧ D.used = sizes (L.take k) ∧ (D.nm.length = 1 ∧ D.kp = D.nm) ∧ D.n = 1 ∧ D.ch.length = 0 ∧ Hp w P' (A ++ (Ad ++ F))

set_option maxRecDepth 100000 in
set_option maxHeartbeats 1000000 in
theorem made_ok (C : Ctx S E B P) (base : Nat) (hb : base ≤ 1099511627776) (every : Nat) (he1 : 1 ≤ every) (he2 : every ≤ 1048576) (v : Value) (out : List (Bt × Value)) (hv : BtsP P v out)
    (L : List Bt) (hL : out.map (·.1) = L) (hch : Chain base 0 L) (hok : ∀ x, x ∈ L → BtOk x ∧ BtBy x) (hsz : sizes L ≤ 1048576) (hH : Hp w P F) :
    Calls Tryz.prog 42 #[.int .i64 base, v, .int .i64 every] w fun e w' => ∃ d s P' A Ad D, e = .returned (.tuple #[ptr d, ptr s]) ∧ Sub P P' ∧ SgM s ⟨d, segNm base, base, every, L, 0⟩ A ∧ DkM P' d D Ad ∧
      SegOn D ⟨d, segNm base, base, every, L, 0⟩ ∧ D.room = 1048576 ∧ D.used = sizes L ∧ (D.nm.length = 1 ∧ D.kp = D.nm) ∧ D.n = 1 ∧ D.ch.length = 0 ∧ Hp w' P' (A ++ (Ad ++ F)) := by
  obtain ⟨va, vc, rfl, hvc⟩ := hv.shape
  have hlen : out.length = L.length := by rw [← hL, List.length_map]
  rw [hlen] at hv hvc ⊢
  have hll : L.length ≤ 1048576 := by have := sizes_low L; omega
  have H := Lib.hid hH
  have HV := Lib.hid hv
  have HL := Lib.hid hL
  have HLN := Lib.hid hlen
  have HSZ := Lib.hid hsz
  clear hH hv hL hlen hsz
  go_enter Tryz.func42, Tryz.ntmps42
  go_wp2_with fail
  refine (new_ok H.out 1048576 (by omega) (by omega)).mono ?_
  rintro e w1 ⟨d, Ad, rfl, hD, hH1⟩
  have H1 := Lib.hid hH1
  have HD := Lib.hid hD
  clear hH1 hD
  go_wp2_with fail
  refine (screate_ok C HD.out (dk0_I _) base hb every he1 he2 rfl (by decide) (by decide) (by decide) H1.out).mono ?_
  rintro e w2 ⟨s, b, A2, Ad2, rfl, hG2, hD2, hnd, hH2⟩
  have hI0 := dk0_I 1048576
  have hI2 := made_I hI0 (nm := segNm base) rfl hnd
  have hlk := made_look hI0 (nm := segNm base) rfl hnd
  have hus := made_used hI0 (nm := segNm base) rfl hnd
  obtain ⟨r1, r2, r3, r4⟩ := made_room hI0 (nm := segNm base) rfl hnd
  have hus0 : (dk0 1048576).used = 0 := rfl
  have hO : SegOn ((dk0 1048576).made (segNm base) b) (sg0 d base every) :=
    ⟨hI2, by simp [sg0], by simp [sg0], hb, by simp [sg0, segNm_len], ⟨⟨b, 1, [], 0⟩, by show Dk.look _ (segNm base) = _; rw [hlk, if_pos rfl]; rfl, rfl, rfl⟩, by rw [r1]; simp [dk0], by rw [hus, hus0]; omega⟩
  have hstart : MadeRel P F d s base every L L.length (.int .i64 ((0 : Nat) : Int)) w2 :=
    ⟨0, P, A2, Ad2, _, by omega, rfl, Sub.refl P, hG2, hD2, hO, by rw [r1]; rfl, by rw [hus, hus0]; rfl, ⟨by rw [r2]; rfl, (beg_fl _).2.1.symm⟩, by rw [r3]; rfl, r4, hH2⟩
  have HS := Lib.hid hstart
  clear hI0 hI2 hlk hus r1 r2 r3 r4 hus0 hO hstart hH2 hnd hG2 hD2
  go_wp2_with fail
  go_loopg [12] L.length (fun m vi wr => MadeRel P F d s base every L m vi wr)
  case atStart => exact HS.out
  case round =>
    obtain ⟨k, P1, A, Ad1, D, hk, rfl, hs1, hG, hD1, hO, hroom, hused, hn1, hn2, hn3, hHr⟩ := hrel
    by_cases hlt : k < L.length
    · obtain ⟨gj, rfl⟩ : ∃ x, gk = x + 1 := ⟨gk - 1, by omega⟩
      have hko : k < out.length := by have := HLN.out; omega
      obtain ⟨g, off, cap, hvv, hcap, hbc⟩ := HV.out.at_ hko
      simp only [Value.slice.injEq] at hvv
      obtain ⟨rfl, -, rfl⟩ := hvv
      have hx : (out[k]'hko).1 = L[k] := by have := HL.out; subst this; simp
      obtain ⟨x, hxd⟩ : ∃ x, x = L[k] := ⟨_, rfl⟩
      obtain ⟨p2, hp2⟩ : ∃ p2, (out[k]'hko).2 = p2 := ⟨_, rfl⟩
      obtain ⟨-, c0, c1, c2, -⟩ := hHr.use (hbc.sub hs1)
      have hbv : Pers P1 (fun w => BtV w (.agg #[.int .i64 x.b, .int .i64 x.e, p2]) x) := (hbc.sub hs1).imp (fun w1 h => by
        obtain ⟨-, -, -, -, h5⟩ := h
        rw [hxd, ← hx, ← hp2]
        exact ⟨_, rfl, h5⟩)
      rw [hx, ← hxd] at c0 c1
      rw [hp2] at c2
      obtain ⟨pa, pl, pc, rfl⟩ : ∃ a l c, p2 = .slice a l c := by
        obtain ⟨r', h1, h2⟩ := hHr.use hbv
        cases h1
        obtain ⟨a, c, e⟩ := h2.shape
        exact ⟨a, _, c, e⟩
      have hfoll : (⟨d, segNm base, base, every, L.take k, 0⟩ : Sg).foll x = true := foll_chain rfl rfl rfl (m := L.drop (k + 1)) (by rw [hxd, take_split L k hlt]; exact hch)
      obtain ⟨hxo, hxb⟩ := hok x (by rw [hxd]; exact List.getElem_mem hlt)
      have hsk := sizes_take L k hlt
      rw [← hxd] at hsk
      have htn := take_next L k hlt
      rw [← hxd] at htn
      have hup : D.used + szB x ≤ D.room := by rw [hused, hroom]; have := HSZ.out; omega
      have j1 : (k : Int) < (L.length : Int) := by omega
      have j2 : (0 : Int) ≤ (k : Int) := by omega
      have HBV := Lib.hid hbv
      have HR := Lib.hid hHr
      have HF := Lib.hid hfoll
      have HTN := Lib.hid htn
      have HU := Lib.hid hused
      have HRM := Lib.hid hroom
      have HN1 := Lib.hid hn1
      have HN2 := Lib.hid hn2
      have HN3 := Lib.hid hn3
      have HK := Lib.hid hk
      have hgj : k + gj + 1 = L.length := by omega
      have HGJ := Lib.hid hgj
      clear hbv hHr hfoll htn hused hroom hn1 hn2 hn3 hk hgj hx hxd hp2 hbc
      go_wp2_with fail
      refine (sappend_on (C.sub hs1) hG hO hD1 x hxo hxb _ HBV.out HF.out hup HR.out).mono ?_
      rintro e w3 ⟨rfl, P3, A3, Ad3, D3, hs3, hG3, hD3, hO3, hsm, hus3, -, hH3⟩
      have hrel3 : MadeRel P F d s base every L gj (.int .i64 ((k + 1 : Nat) : Int)) w3 :=
        ⟨k + 1, P3, A3, Ad3, D3, by have := HGJ.out; omega, rfl, hs1.trans hs3, by rw [HTN.out]; exact hG3, hD3, by rw [HTN.out]; exact hO3, by rw [hsm.room]; exact HRM.out,
          by rw [hus3, HU.out, HTN.out, sizes_app]; simp [sizes], ⟨by rw [hsm.nml]; exact HN1.out.1, hsm.kpq HN1.out.2⟩, by rw [hsm.n]; exact HN2.out, by have := hsm.ch; have := HN3.out; omega, hH3⟩
      have HR3 := Lib.hid hrel3
      clear hrel3 hH3 hG3 hD3 hO3 hsm hus3
      go_wp2_with fail
      go_roundg gj
      case measure => omega
      case rel => exact HR3.out
    · obtain rfl : k = L.length := by omega
      have HR := Lib.hid hHr
      have HG := Lib.hid hG
      have HO := Lib.hid hO
      have HU := Lib.hid hused
      have HRM := Lib.hid hroom
      have HN1 := Lib.hid hn1
      have HN2 := Lib.hid hn2
      have HN3 := Lib.hid hn3
      clear hHr hG hO hused hroom hn1 hn2 hn3
      go_wp2_with fail
      go_ret2
      have e : L.take L.length = L := List.take_length
      exact ⟨d, s, P1, A, Ad1, D, rfl, hs1, by have := HG.out; rwa [e] at this, hD1, by have := HO.out; rwa [e] at this, HRM.out, by have := HU.out; rwa [e] at this, HN1.out, HN2.out, HN3.out, HR.out⟩
end

end Go.Proofs.YtncjffkpkmjgkaaGreatDoor.Sg

/-! Lp -/
namespace Go.Proofs.YtncjffkpkmjgkaaGreatDoor.Sg
open Go.RowKit Er Go.Maps

theorem rdGo_pre (o m : Int) : ∀ (l out : List Bt) (s : Nat), out <+: rdGo o m l out s
  | [], out, s => List.prefix_refl _
  | x :: l, out, s => by
    unfold rdGo
    split
    · exact rdGo_pre o m l out s
    split
    · exact List.prefix_refl _
    split
    · exact List.prefix_append _ _
    · exact (List.prefix_append _ _).trans (rdGo_pre o m l _ _)

/-- A greater limit tells as much at least, that begins the same. -/
theorem rdGo_mono (o a b : Int) (hab : a ≤ b) : ∀ (l out : List Bt) (s : Nat), rdGo o a l out s <+: rdGo o b l out s
  | [], out, s => List.prefix_refl _
  | x :: l, out, s => by
    by_cases h1 : x.b + x.r.length ≤ o
    · have e1 : rdGo o a (x :: l) out s = rdGo o a l out s := by conv => lhs; unfold rdGo; rw [if_pos h1]
      have e2 : rdGo o b (x :: l) out s = rdGo o b l out s := by conv => lhs; unfold rdGo; rw [if_pos h1]
      rw [e1, e2]
      exact rdGo_mono o a b hab l out s
    · by_cases h2 : out ≠ [] ∧ a - s < szB (fromL x o)
      · have e1 : rdGo o a (x :: l) out s = out := by unfold rdGo; rw [if_neg h1, if_pos h2]
        rw [e1]
        exact rdGo_pre o b _ out s
      · by_cases h3 : a < s + szB (fromL x o)
        · have e1 : rdGo o a (x :: l) out s = out ++ [fromL x o] := by unfold rdGo; rw [if_neg h1, if_neg h2, if_pos h3]
          have h4 : out = [] := by
            rcases Classical.em (out = []) with h | h
            · exact h
            · exact absurd ⟨h, by omega⟩ h2
          rw [e1]
          conv => rhs; unfold rdGo
          rw [if_neg h1, if_neg (by simp [h4])]
          split
          · exact List.prefix_refl _
          · exact rdGo_pre o b l _ _
        · have e1 : rdGo o a (x :: l) out s = rdGo o a l (out ++ [fromL x o]) (s + szB (fromL x o)) := by conv => lhs; unfold rdGo; rw [if_neg h1, if_neg h2, if_neg h3]
          have e2 : rdGo o b (x :: l) out s = rdGo o b l (out ++ [fromL x o]) (s + szB (fromL x o)) := by
            conv => lhs; unfold rdGo
            rw [if_neg h1, if_neg (by rintro ⟨h, h'⟩; omega), if_neg (by omega)]
          rw [e1, e2]
          exact rdGo_mono o a b hab l _ _

/-- The batches are as many bytes as the limit at most, but the first. -/
theorem rdGo_sum (o a : Int) : ∀ (l out : List Bt) (s : Nat), s = sizes out → (out = [] ∨ (s : Int) ≤ a) → (rdGo o a l out s).length ≤ 1 ∨ (sizes (rdGo o a l out s) : Int) ≤ a
  | [], out, s, hs, h => by
    rcases h with rfl | h
    · exact .inl (by simp [rdGo])
    · exact .inr (by rw [hs] at h; exact h)
  | x :: l, out, s, hs, h => by
    unfold rdGo
    split
    · exact rdGo_sum o a l out s hs h
    split
    · rename_i h2
      rcases h with h | h
      · exact absurd h h2.1
      · exact .inr (by rw [hs] at h; exact h)
    split
    · rename_i h2 h3
      have h4 : out = [] := by
        rcases Classical.em (out = []) with h | h
        · exact h
        · exact absurd ⟨h, by omega⟩ h2
      exact .inl (by simp [h4])
    · exact rdGo_sum o a l _ _ (by rw [hs, sizes_app]; simp [sizes]) (.inr (by omega))

theorem fromL_b (x : Bt) (o : Int) (h : x.b ≤ o) : (fromL x o).b = o := by
  unfold fromL
  split
  · omega
  · rfl
/-- A read in range begins at its offset. -/
theorem rdGo_head (o m : Int) : ∀ (l : List Bt) (b e : Int), Chain b e l → b ≤ o → o < endOf b l → ∃ y r, rdGo o m l [] 0 = y :: r ∧ y.b = o
  | [], b, e, _, h1, h2 => by simp [endOf] at h2; omega
  | x :: l, b, e, hc, h1, h2 => by
    obtain ⟨hb, he, hc⟩ := hc
    by_cases h3 : x.b + x.r.length ≤ o
    · have e1 : rdGo o m (x :: l) [] 0 = rdGo o m l [] 0 := by conv => lhs; unfold rdGo; rw [if_pos h3]
      rw [e1]
      exact rdGo_head o m l _ _ hc h3 (by rw [endOf_cons] at h2; exact h2)
    · have hp : [fromL x o] <+: rdGo o m (x :: l) [] 0 := by
        conv => rhs; unfold rdGo
        rw [if_neg h3, if_neg (by simp)]
        split
        · exact List.prefix_refl _
        · exact rdGo_pre o m l _ _
      obtain ⟨r, hr⟩ := hp
      exact ⟨fromL x o, r, hr.symm, fromL_b x o (by omega)⟩
theorem rdGo_ok (o m : Int) : ∀ (l out : List Bt) (s : Nat), (∀ x, x ∈ l → BtOk x ∧ BtBy x) → (∀ x, x ∈ out → BtOk x ∧ BtBy x) → ∀ x, x ∈ rdGo o m l out s → BtOk x ∧ BtBy x
  | [], out, s, _, h => h
  | x :: l, out, s, hl, h => by
    unfold rdGo
    have hx := hl x List.mem_cons_self
    split
    · exact rdGo_ok o m l out s (fun y hy => hl y (List.mem_cons_of_mem _ hy)) h
    rename_i h1
    have hy : ∀ y, y ∈ out ++ [fromL x o] → BtOk y ∧ BtBy y := fun y hy => by
      rcases List.mem_append.1 hy with hy | hy
      · exact h y hy
      · rw [List.mem_singleton.1 hy]; exact ⟨fromL_ok x hx.1 o (by omega), fromL_by x hx.2 o⟩
    split
    · exact h
    split
    · exact hy
    · exact rdGo_ok o m l _ _ (fun y hy => hl y (List.mem_cons_of_mem _ hy)) hy
theorem rdGo_len (o m : Int) : ∀ (l out : List Bt) (s : Nat), (rdGo o m l out s).length ≤ out.length + l.length
  | [], out, s => by simp [rdGo]
  | x :: l, out, s => by
    unfold rdGo
    split
    · have := rdGo_len o m l out s; simp; omega
    split
    · simp
    split
    · simp
    · have := rdGo_len o m l (out ++ [fromL x o]) (s + szB (fromL x o)); simp at this ⊢; omega

/-! ### the table of powers, and the errors, out of a row's list -/
theorem tab_below {w w' : World} (h : Lib.TabIs Tryz.prog w "internal/strconv.uint64pow10" .u64 Lib.pow10Tab) (hb : Below w.heap.size w w') : Lib.TabIs Tryz.prog w' "internal/strconv.uint64pow10" .u64 Lib.pow10Tab := by
  have hgn : Tryz.prog.globalNamed "internal/strconv.uint64pow10" = some 19 := by kernel_rfl
  unfold Lib.TabIs World.var? at h ⊢
  rw [hgn] at h ⊢
  simp only [Option.bind_some] at h ⊢
  have hlt : 19 < w.heap.size := by
    rcases Nat.lt_or_ge 19 w.heap.size with h' | h'
    · exact h'
    · rw [Array.getElem?_eq_none h'] at h; cases h
  rw [hb.block 19 hlt]
  exact h
theorem ctx_start {S : List Nat} {W : World} {E : Nat → Addr} (hS : ∀ i, i < 10 ∨ i = 14 → i ∈ S) (hE : Errs S W E W.heap.size) (hT : Lib.TabIs Tryz.prog W "internal/strconv.uint64pow10" .u64 Lib.pow10Tab) : Ctx S E W.heap.size (Pm.start W) := by
  have hup : Pers (Pm.start W) (Below W.heap.size W) := fun w hw => (Pers.upd (w := W) (M := []) w hw).to_below (Nat.le_refl _) (by simp [ids])
  exact ⟨hS, hup.imp (fun w hb => hE.below hb), hup.imp (fun w hb => tab_below hT hb)⟩

end Go.Proofs.YtncjffkpkmjgkaaGreatDoor.Sg

/-! Lf -/
namespace Go.Proofs.YtncjffkpkmjgkaaGreatDoor.Sg
open Go.RowKit Er Go.Maps

/-- What a walk is told of a slice of integers that came in. -/
def IsRow (w : World) (a : Option Addr) (len cap : Nat) (zs : List Int) : Prop :=
  (a = none ∧ len = 0 ∧ cap = 0 ∧ zs = []) ∨
  ∃ x, a = some x ∧ len ≤ cap ∧ cap ≤ maxLen ∧ zs.length = cap ∧ (∀ i, i < zs.length → w.cell? (x.add i) = some (.int .i64 (zs.getD i 0))) ∧ ∀ n ∈ zs, (Lit.int .i64 n).wf = true
theorem isRow_C {w : World} {a : Option Addr} {len cap : Nat} {zs : List Int} (h : IsRow w a len cap zs) : ∃ xs, xs.length = len ∧ IntsR w a xs := by
  rcases h with ⟨rfl, rfl, rfl, rfl⟩ | ⟨x, rfl, h1, h2, h3, h4, h5⟩
  · exact ⟨[], rfl, fun k x hx => by simp at hx⟩
  · have hl : (zs.take len).length = len := by rw [List.length_take, Nat.min_eq_left (by omega)]
    refine ⟨zs.take len, hl, fun k u hu => ?_⟩
    rw [List.getElem?_take] at hu
    split at hu
    · have hk : k < zs.length := (List.getElem?_eq_some_iff.1 hu).1
      have hc := h4 k hk
      rw [List.getD_eq_getElem?_getD, hu] at hc
      obtain ⟨b, off, spot⟩ := x
      have h0 := h4 0 (by omega)
      have hspot : spot = none := by simpa [Addr.add] using World.cell?_spot h0
      subst hspot
      rw [addr_add'] at hc
      exact ⟨b, off, rfl, World.block_lt_of_cell? _ _ hc, hc⟩
    · cases hu
theorem ints_pers {W : World} {a : Option Addr} {xs : List Int} (h : IntsR W a xs) : Pers (Pm.start W) (fun w => IntsR w a xs) := fun w hw k x hx => by
  obtain ⟨g, off, h1, h2, h3⟩ := h k x hx
  have hb : Below W.heap.size W w := (Pers.upd (w := W) (M := []) w hw).to_below (Nat.le_refl _) (by simp [ids])
  exact ⟨g, off, h1, Nat.lt_of_lt_of_le h2 hb.size, (hb.cell h2).trans h3⟩

section
variable {S : List Nat} {E : Nat → Addr} {B : Nat} {P : Pm} {s : Nat} {G : Sg} {D : Dk} {A Ad F : Mm} {w : World}

theorem sread_on (C : Ctx S E B P) (hG : SgM s G A) (hO : SegOn D G) (hD : DkM P G.d D Ad) (o most : Int) (ho1 : (G.base : Int) ≤ o) (ho2 : o < G.end_) (hm1 : -9223372036854775808 ≤ most) (hm2 : most ≤ 9223372036854775807) (hH : Hp w P (A ++ (Ad ++ F))) :
    Calls Tryz.prog 43 #[ptr s, .int .i64 o, .int .i64 most] w fun e w' =>
      ∃ v out P', e = .returned (.tuple #[v, .nilIface]) ∧ Sub P P' ∧ out.map (·.1) = rdGo o most G.l [] 0 ∧ BtsP P' v out ∧ Hp w' P' (A ++ (Ad ++ F)) := by
  obtain ⟨f, h1, h2, h3⟩ := hO.f
  have hlen : f.b.length ≤ D.used := used_ge h1
  have hr := hO.room
  have hu := hO.used
  refine (sread_ok C hG hO.W hD (by have := hO.nm; omega) f.blk (hO.I.file_ok h1) f (look_some h1).2 (by omega) h2 o most ho1 ho2 hm1 hm2 hH).mono ?_
  rintro e w' ⟨v, out, P', A', rfl, hs, hbm, hH'⟩
  obtain ⟨P2, hs2, hbp, hH2⟩ := hbm.seal hH'
  exact ⟨v, out, P2, rfl, hs.trans hs2, hbm.map, hbp, hH2⟩

theorem row22 : ∃ x0 x1 : Bt, rowGo 0 [2, 2] 0 0 = [x0, x1] ∧ x0.b = 0 ∧ x0.r.length = 3 ∧ x1.b = 3 ∧ x1.r.length = 3 := ⟨_, _, rfl, rfl, rfl, rfl, rfl⟩
theorem read22 : ∃ y : Bt, rdGo 4 0 (rowGo 0 [2, 2] 0 0) [] 0 = [y] ∧ y.b = 4 ∧ y.r.length = 2 := by
  obtain ⟨x0, x1, h, a0, b0, a1, b1⟩ := row22
  have hb : (fromL x1 4).b = 4 := fromL_b x1 4 (by omega)
  have hr : (fromL x1 4).r.length = 2 := by
    unfold fromL
    rw [if_neg (by omega)]
    show (x1.r.drop _).length = 2
    rw [List.length_drop, a1, b1]; rfl
  refine ⟨fromL x1 4, ?_, hb, hr⟩
  have hp := szB_pos (fromL x1 4)
  rw [h]
  unfold rdGo
  rw [if_pos (by omega)]
  unfold rdGo
  rw [if_neg (by omega), if_neg (by simp), if_pos (by omega)]; rfl

set_option maxRecDepth 100000 in
set_option maxHeartbeats 1000000 in
theorem first_ok (C : Ctx S E B P) (hH : Hp w P F) :
    Calls Tryz.prog 7 #[] w fun e w' => e = .returned (.bool true) ∧ ∃ P', Sub P P' ∧ Hp w' P' F := by
  obtain ⟨y, hy, hyb, hyr⟩ := read22
  obtain ⟨L, hLd⟩ : ∃ L, L = rowGo 0 [2, 2] 0 0 := ⟨_, rfl⟩
  have hch : Chain 0 0 L := by rw [hLd]; exact row_chain 0 [2, 2] 0 0 0 (by decide)
  have hok : ∀ x, x ∈ L → BtOk x ∧ BtBy x := by rw [hLd]; exact row_ok 0 [2, 2] 0 0 (by decide) (by decide) (by decide)
  have hend : (4 : Int) < endOf 0 L := by
    obtain ⟨x0, x1, h, a0, b0, a1, b1⟩ := row22
    rw [hLd, h]
    show (4 : Int) < endOf 0 ([x0] ++ [x1])
    rw [endOf_snoc]; omega
  have hsz : sizes L ≤ 1048576 := by
    obtain ⟨x0, x1, h, -⟩ := row22
    have h0 := szB_le x0 (hok x0 (by rw [hLd, h]; simp)).1
    have h1 := szB_le x1 (hok x1 (by rw [hLd, h]; simp)).1
    rw [hLd, h]
    simp [sizes]; omega
  rw [← hLd] at hy
  have hC2 : ∃ P2, Sub P P2 ∧ Hp (w.alloc (.cells #[.int .i64 2, .int .i64 2] 3)) P2 F ∧ Pers P2 (fun w1 => IntsR w1 (some ⟨w.heap.size, 0, none⟩) [2, 2]) := by
    obtain ⟨P2, h1, h2, h3⟩ := hH.lay (.cells #[.int .i64 2, .int .i64 2] 3)
    refine ⟨P2, h1, h2, fun w1 hw k x hx => ?_⟩
    have hb := hw.m _ _ h3
    refine ⟨w.heap.size, 0, rfl, (Array.getElem?_eq_some_iff.1 hb).1, ?_⟩
    have hj : k < 2 := (List.getElem?_eq_some_iff.1 hx).1
    rcases k with _ | _ | k
    · cases hx; simp [World.cell?, hb]
    · cases hx; simp [World.cell?, hb]
    · omega
  obtain ⟨P0, hs0, hA, hC2⟩ := hC2
  have H := Lib.hid hA
  have HC2 := Lib.hid hC2
  have HY := Lib.hid hy
  have HYR := Lib.hid hyr
  have HYB := Lib.hid hyb
  have HLD := Lib.hid hLd
  have HCH := Lib.hid hch
  have HOK := Lib.hid hok
  have HE := Lib.hid hend
  have HSZ := Lib.hid hsz
  have HS0 := Lib.hid hs0
  clear hH hA hC2 hs0 hy hyr hyb hLd hch hok hend hsz
  go_enter Tryz.func7, Tryz.ntmps7
  go_wp2_with fail
  refine (row_p H.out (some ⟨w.heap.size, 0, none⟩) [2, 2] 2 HC2.out 0 (by decide) (by decide) 0 (by decide) (by decide)).mono ?_
  rintro e w1 ⟨v1, P1, out, rfl, hs1, hm1, hb1, hH1⟩
  rw [← HLD.out] at hm1
  have H1 := Lib.hid hH1
  have HB1 := Lib.hid hb1
  have HM1 := Lib.hid hm1
  have HS1 := Lib.hid (HS0.out.trans hs1)
  clear hH1 hb1 hm1 hs1
  go_wp2_with fail
  refine (made_ok (C.sub HS1.out) 0 (by decide) 100 (by decide) (by decide) v1 out HB1.out L HM1.out HCH.out HOK.out HSZ.out H1.out).mono ?_
  rintro e w2 ⟨d, s, P2, A, Ad, D, rfl, hs2, hG, hD, hO, -, -, -, -, -, hH2⟩
  have HS2 := Lib.hid (HS1.out.trans hs2)
  have H2 := Lib.hid hH2
  clear hs2 hH2
  go_wp2_with fail
  refine (sread_on (C.sub HS2.out) hG hO hD 4 0 (by show (0 : Int) ≤ 4; omega) HE.out (by decide) (by decide) H2.out).mono ?_
  rintro e w3 ⟨v3, out3, P3, rfl, hs3, hm3, hb3, hH3⟩
  have hm3' : out3.map (·.1) = [y] := hm3.trans HY.out
  obtain ⟨p, rfl⟩ : ∃ p, out3 = [p] := by
    match out3, hm3' with
    | [p], _ => exact ⟨p, rfl⟩
  obtain rfl : p.1 = y := by simpa using hm3'
  obtain ⟨g, off, cap, rfl, hcap, hbc⟩ := hb3.at_ (k := 0) (by simp)
  obtain ⟨-, c0, c1, c2, hrs⟩ := hH3.use hbc
  obtain ⟨ra, rc, hra⟩ := hrs.shape
  simp only [List.getElem_cons_zero, Nat.zero_mul, Nat.add_zero] at c0 c1 c2 hra
  rw [hra, HYR.out] at c2
  rw [HYB.out] at c0
  simp only [List.length_cons, List.length_nil, Nat.zero_add] at hcap ⊢
  have HS3 := Lib.hid (HS2.out.trans hs3)
  have H3 := Lib.hid hH3
  clear hs3 hH3 hm3 hm3' hb3 hbc hrs hra
  go_wp2_with fail
  go_ret
  exact ⟨rfl, P3, HS3.out, H3.out.drop.drop⟩
end

end Go.Proofs.YtncjffkpkmjgkaaGreatDoor.Sg
