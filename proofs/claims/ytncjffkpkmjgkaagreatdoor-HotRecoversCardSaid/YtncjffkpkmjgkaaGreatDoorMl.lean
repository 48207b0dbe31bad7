/- name.Base of a segment's name. disk.List: a disk's names, in order. A log on a disk, told of other pointers; its names in order; hot.follows. hot.Open of a disk that is in order. append of batches that were read to a row of batches. cordwoodlaw10.made. cordwoodlaw10.first. A batch of a log, read by itself. -/
import Derived.Test.YtncjffkpkmjgkaaGreatDoorMg
import Derived.Test.YtncjffkpkmjgkaaGreatDoorIt
import Derived.Test.YtncjffkpkmjgkaaGreatDoorMk
import Derived.Test.YtncjffkpkmjgkaaGreatDoorMe
import Derived.OwnWalkIn
import Derived.TacticsInMore
import Derived.WalkKit
import Derived.RangeFuncNested
import Derived.RangeFuncBound
import Derived.RangeFuncCalls
import Derived.RangeFuncLeaves

/-! Hj -/
namespace Go.Proofs.YtncjffkpkmjgkaaGreatDoor.Sg
open Go.RowKit Er Go.Maps

/-- What digits say. -/
def numV (l : Nam) : Nat := l.foldl (fun a c => 10 * a + (c.toNat - 48)) 0
theorem numV_snoc (l : Nam) (c : UInt8) : numV (l ++ [c]) = 10 * numV l + (c.toNat - 48) := by simp [numV]
def isDig (c : UInt8) : Prop := 48 ≤ c.toNat ∧ c.toNat ≤ 57
theorem digs_dig : ∀ (k n : Nat), ∀ c ∈ digs k n, isDig c
  | 0, _, c, h => by cases h
  | k + 1, n, c, h => by
    unfold digs at h
    rcases List.mem_append.1 h with h | h
    · exact digs_dig k _ c h
    · rw [List.mem_singleton.1 h]
      unfold isDig
      rw [UInt8.toNat_ofNat']
      omega
theorem numV_digs : ∀ (k n : Nat), numV (digs k n) = n % 10 ^ k
  | 0, n => by simp [digs, numV, Nat.mod_one]
  | k + 1, n => by
    unfold digs
    rw [numV_snoc, numV_digs k, UInt8.toNat_ofNat']
    have h1 : (48 + n % 10) % 2 ^ 8 - 48 = n % 10 := by omega
    rw [h1, Nat.pow_succ, Nat.mul_comm (10 ^ k) 10, Nat.mod_mul]
    omega
theorem numV_lt : ∀ (l : Nam), (∀ c ∈ l, isDig c) → numV l < 10 ^ l.length := by
  intro l
  obtain ⟨n, hn⟩ : ∃ n, l.length = n := ⟨_, rfl⟩
  induction n generalizing l with
  | zero => intro _; rw [List.eq_nil_of_length_eq_zero hn]; decide
  | succ n ih =>
    intro h
    rcases List.eq_nil_or_concat l with rfl | ⟨l0, c, e⟩
    · simp at hn
    · rw [List.concat_eq_append] at e
      subst e
      have h1 := ih l0 (by simpa using hn) (fun d hd => h d (by simp [hd]))
      have h2 := (h c (by simp)).2
      rw [numV_snoc, List.length_append, List.length_singleton, Nat.pow_succ]
      omega

set_option maxRecDepth 100000 in
set_option maxHeartbeats 800000 in
theorem number_ok (ds : Nam) (h13 : ds.length = 13) (hd : ∀ c ∈ ds, isDig c) (w : World) :
    Calls Tryz.prog 122 #[str ds, .int .i64 13] w fun e w' => e = .returned (.tuple #[.int .i64 (numV ds), .bool true]) ∧ w' = w := by
  have hsz : (⟨ds.toArray⟩ : ByteArray).size = 13 := by simp [ByteArray.size, h13]
  have HS := Lib.hid h13
  go_enter Tryz.func122, Tryz.ntmps122
  clear h13
  go_wp2_with fail
  go_loopg [6, 14] 13 (fun r q i wr => ∃ k : Nat, k + r = 13 ∧ i = .int .i64 k ∧ q = .int .i64 (numV (ds.take k)) ∧ w = wr)
  case atStart => exact ⟨0, by omega, rfl, rfl, rfl⟩
  case round =>
    obtain ⟨k, hk, rfl, rfl, rfl⟩ := hrel
    by_cases hlt : k < 13
    · obtain ⟨gj, rfl⟩ : ∃ x, gk = x + 1 := ⟨gk - 1, by omega⟩
      have hkl : k < ds.length := by rw [HS.out]; exact hlt
      have hlt2 : k < ds.toArray.size := by simpa using hkl
      have hdk := hd _ (List.getElem_mem hkl)
      have hst : numV (ds.take (k + 1)) = 10 * numV (ds.take k) + ((ds[k]).toNat - 48) := by rw [take_next ds k hkl, numV_snoc]
      have hb := numV_lt (ds.take k) (fun c hc => hd c (List.mem_of_mem_take hc))
      rw [List.length_take, Nat.min_eq_left (by omega)] at hb
      have hb2 : (10 : Nat) ^ k ≤ 10 ^ 13 := Nat.pow_le_pow_right (by omega) (by omega)
      have hcd : (ds[k]).toNat = (⟨ds.toArray⟩ : ByteArray)[k].toNat := rfl
      unfold isDig at hdk
      rw [hcd] at hst hdk
      obtain ⟨m, hm⟩ : ∃ m, numV (ds.take k) = m := ⟨_, rfl⟩
      rw [hm] at hst hb ⊢
      have hm13 : m < 10000000000000 := by omega
      have hc57 := hdk.2
      have hc48 := hdk.1
      have i1 : ¬ ((⟨ds.toArray⟩ : ByteArray)[k].toNat : Int) < 48 := by omega
      have i2 : ¬ (57 : Int) < ((⟨ds.toArray⟩ : ByteArray)[k].toNat : Int) := by omega
      have i3 : (48 : Int) ≤ ((⟨ds.toArray⟩ : ByteArray)[k].toNat : Int) := by omega
      have HNX : Hid (10 * (m : Int) + (((⟨ds.toArray⟩ : ByteArray)[k].toNat : Int) - 48) = ((numV (ds.take (k + 1)) : Nat) : Int)) := by show _ = _; rw [hst]; omega
      clear hst hb hb2 hm hdk hcd
      go_wp2_with fail
      go_roundg gj
      case measure => omega
      case rel => exact ⟨k + 1, by omega, by simp, by rw [HNX.out], rfl⟩
    · obtain rfl : k = 13 := by omega
      have e : ds.take 13 = ds := by rw [← HS.out]; exact List.take_length
      rw [e]
      go_wp2_with fail
      go_ret2
      exact ⟨rfl, rfl⟩

theorem seg_str (n : Nat) : str (segNm n) = .string ⟨#[108, 111, 103, 45] ++ (digs 13 n).toArray⟩ := by
  unfold segNm
  simp

set_option maxRecDepth 100000 in
set_option maxHeartbeats 800000 in
theorem hasprefix_ok (ds : Nam) (h13 : ds.length = 13) (w : World) :
    Calls Tryz.prog 191 #[.string ⟨#[108, 111, 103, 45] ++ ds.toArray⟩, .string ⟨#[108, 111, 103, 45]⟩] w fun e w' => e = .returned (.bool true) ∧ w' = w := by
  have hsz : (⟨#[108, 111, 103, 45] ++ ds.toArray⟩ : ByteArray).size = 17 := by simp [ByteArray.size, h13]
  have hx : (⟨#[108, 111, 103, 45] ++ ds.toArray⟩ : ByteArray).extract 0 4 = ⟨#[108, 111, 103, 45]⟩ := by
    apply ByteArray.ext
    simp
  obtain ⟨s, hs⟩ : ∃ s, s = (⟨#[108, 111, 103, 45] ++ ds.toArray⟩ : ByteArray) := ⟨_, rfl⟩
  rw [← hs] at hsz hx ⊢
  clear hs h13
  go_enter Tryz.func191, Tryz.ntmps191
  go_wp2_with fail
  go_ret
  exact ⟨rfl, rfl⟩

theorem drop4 (ds : Nam) (h13 : ds.length = 13) : (⟨#[108, 111, 103, 45] ++ ds.toArray⟩ : ByteArray).extract 4 17 = ⟨ds.toArray⟩ := by
  apply ByteArray.ext
  simp
  rw [List.take_of_length_le (by omega)]

set_option maxRecDepth 100000 in
set_option maxHeartbeats 800000 in
theorem cutprefix_in (ds : Nam) (s : ByteArray) (hs : Hid (s = ⟨#[108, 111, 103, 45] ++ ds.toArray⟩)) (h13 : Hid (ds.length = 13)) (w : World) :
    Calls Tryz.prog 165 #[.string s, .string ⟨#[108, 111, 103, 45]⟩] w fun e w' => e = .returned (.tuple #[.string (s.extract 4 17), .bool true]) ∧ w' = w := by
  have hsz : s.size = 17 := by rw [hs.out]; simp [ByteArray.size, h13.out]
  have HP : Hid (∀ w, Calls Tryz.prog 191 #[.string s, .string ⟨#[108, 111, 103, 45]⟩] w fun e w' => e = .returned (.bool true) ∧ w' = w) := fun w => by
    rw [hs.out]; exact hasprefix_ok ds h13.out w
  go_enter Tryz.func165, Tryz.ntmps165
  go_wp2_with fail
  refine (HP.out _).mono ?_
  rintro e w1 ⟨rfl, rfl⟩
  go_wp2_with fail
  go_ret2
  exact ⟨rfl, rfl⟩

set_option maxRecDepth 100000 in
set_option maxHeartbeats 800000 in
theorem cutprefix_ok (ds : Nam) (s : ByteArray) (hs : Hid (s = ⟨#[108, 111, 103, 45] ++ ds.toArray⟩)) (h13 : Hid (ds.length = 13)) (w : World) :
    Calls Tryz.prog 121 #[.string s, .string ⟨#[108, 111, 103, 45]⟩] w fun e w' => e = .returned (.tuple #[.string ⟨ds.toArray⟩, .bool true]) ∧ w' = w := by
  have HX : Hid (s.extract 4 17 = ⟨ds.toArray⟩) := by show _ = _; rw [hs.out]; exact drop4 ds h13.out
  rw [← HX.out]
  go_enter Tryz.func121, Tryz.ntmps121
  go_wp2_with fail
  refine (cutprefix_in ds s hs h13 _).mono ?_
  rintro e w1 ⟨rfl, rfl⟩
  go_wp2_with fail
  go_ret2
  exact ⟨rfl, rfl⟩

set_option maxRecDepth 100000 in
set_option maxHeartbeats 800000 in
theorem nbase_ok (n : Nat) (hn : n ≤ 1099511627776) (w : World) :
    Calls Tryz.prog 81 #[str (segNm n)] w fun e w' => e = .returned (.tuple #[.int .i64 n, .bool true]) ∧ w' = w := by
  have hd : (digs 13 n).length = 13 := digs_len _ _
  have hdd := digs_dig 13 n
  have hv : numV (digs 13 n) = n := by rw [numV_digs]; exact Nat.mod_eq_of_lt (by omega)
  rw [seg_str]
  obtain ⟨ds, hds⟩ : ∃ ds, ds = digs 13 n := ⟨_, rfl⟩
  rw [← hds] at hd hdd hv ⊢
  obtain ⟨s, hs⟩ : ∃ s, s = (⟨#[108, 111, 103, 45] ++ ds.toArray⟩ : ByteArray) := ⟨_, rfl⟩
  rw [← hs]
  have HD := Lib.hid hd
  have HDD := Lib.hid hdd
  have HV := Lib.hid hv
  have HS : Hid (s = ⟨#[108, 111, 103, 45] ++ ds.toArray⟩) := hs
  clear hds hs hd hdd hv
  go_enter Tryz.func81, Tryz.ntmps81
  go_wp2_with fail
  refine (cutprefix_ok ds s HS HD _).mono ?_
  rintro e w1 ⟨rfl, rfl⟩
  go_wp2_with fail
  refine (number_ok ds HD.out HDD.out _).mono ?_
  rintro e w1 ⟨rfl, rfl⟩
  rw [HV.out]
  go_wp2_with fail
  refine (nright_yes n (by omega) (by omega) _).mono ?_
  rintro e w1 ⟨rfl, rfl⟩
  go_wp2_with fail
  go_ret2
  exact ⟨rfl, rfl⟩
end Go.Proofs.YtncjffkpkmjgkaaGreatDoor.Sg

/-! Hk -/
namespace Go.Proofs.YtncjffkpkmjgkaaGreatDoor.Sg
open Go.RowKit Er Go.Maps Go.Sort Go.Shelf

theorem sortsIn (m : Nat) : AnyZ.SortsIn Tryz.prog Tryz.sortedA_ren Fence.wide m :=
  ⟨fun _ _ cap ss W hH hblk hsz => callsIn_wide.2 (Any.slices_Sort_string Tryz.sortA _ _ cap ss W hH hblk hsz),
   fun p cap W => callsIn_wide.2 (Any.slices_Sort_string_none Tryz.sortA p cap W)⟩

/-- Strings that are read. -/
def StrsR (w : World) (v : Value) (ss : List Nam) : Prop := (v = .slice none 0 0 ∧ ss = []) ∨ ∃ g c, v = .slice (some ⟨g, 0, none⟩) ss.length c ∧ ss.length ≤ c ∧ g < w.heap.size ∧ ∀ (k : Nat) s, ss[k]? = some s → w.cell? ⟨g, k, none⟩ = some (str s)
theorem StrsR.shape {w : World} {v : Value} {ss : List Nam} (h : StrsR w v ss) : ∃ a c, v = .slice a ss.length c ∧ ss.length ≤ c := by
  rcases h with ⟨rfl, rfl⟩ | ⟨g, c, rfl, hc, _⟩
  · exact ⟨none, 0, rfl, Nat.le_refl _⟩
  · exact ⟨_, c, rfl, hc⟩
theorem StrsR.at_ {w : World} {v : Value} {ss : List Nam} (h : StrsR w v ss) {k : Nat} (hk : k < ss.length) : ∃ g c, v = .slice (some ⟨g, 0, none⟩) ss.length c ∧ w.cell? ⟨g, k, none⟩ = some (str ss[k]) := by
  rcases h with ⟨_, rfl⟩ | ⟨g, c, hv, _, _, hc⟩
  · simp at hk
  · exact ⟨g, c, hv, hc k _ (List.getElem?_eq_getElem hk)⟩

/-- A row of strings of one's own is let be for good. -/
theorem Hp.sealStrs {w : World} {P : Pm} {A F : Mm} (hH : Hp w P (A ++ F)) {v : Value} {ss : List Nam} (hr : RowM 9 1 v ss.length (ss.map str) A) : ∃ P', Sub P P' ∧ Hp w P' F ∧ Pers P' (fun w => StrsR w v ss) := by
  obtain ⟨h1, h2⟩ := hr
  rcases h2 with ⟨rfl, hn, rfl⟩ | ⟨g, cap, cur, rfl, hc, hc2, hsz, htk, rfl⟩
  · exact ⟨P, Sub.refl P, hH, fun w' _ => Or.inl ⟨rfl, List.eq_nil_of_length_eq_zero hn⟩⟩
  · obtain ⟨hs, hH2⟩ := Hp.seal (M := F) hH
    refine ⟨_, hs, hH2, fun w' hw => Or.inr ⟨g, cap, rfl, hc, ?_, fun i x hx => ?_⟩⟩
    · exact hw.lt (b := g) (o := .cells cur 9 (0, 0)) (by simp [Pm.ins])
    · have hg := hw.m g (.cells cur 9 (0, 0)) (by simp [Pm.ins])
      have hi : (ss.map str)[i]? = some (str x) := by simp [hx]
      rw [← htk, List.getElem?_take] at hi
      split at hi
      · simp [World.cell?, hg]
        simpa using hi
      · cases hi

/-- A map's keys are the names. -/
theorem keys_perm {Dm : DataW Value} {m : List (Nam × Nat)} {w : World} {b n : Nat} (hown : w.ownsMap Tryz.prog 9 Rv b n Dm) (hD : MapD Dm (kvOf m)) : (m.map (·.1)).Perm (strKeys Dm) := by
  obtain ⟨es, hDe, hpw, _⟩ := hown.entries strK
  obtain ⟨es', hD', hko⟩ := hown.keysOf
  obtain rfl : es = es' := by rw [hDe] at hD'; simpa using hD'
  subst hDe
  refine perm_strKeys hpw (fun p hp => by obtain ⟨v, hv⟩ := hko p hp; obtain ⟨x, _, hx, _⟩ := Maps.keyOf_str Tryz.underlying9 hv; exact ⟨x, hx⟩) ?_ (fun x => ?_)
  · have := hD.nodup
    unfold kvOf at this
    rw [List.pairwise_map] at this
    refine List.pairwise_map.2 (this.imp (fun h e => h ?_))
    dsimp only
    rw [e]
  · rw [kfind_has hD, kfind_kv]
    constructor
    · intro hx
      obtain ⟨p, hp, rfl⟩ := List.mem_map.1 hx
      obtain ⟨k, hk⟩ := nfind_of_mem hp
      rw [hk]; rfl
    · intro hx
      cases hf : nfind m x with
      | none => rw [hf] at hx; cases hx
      | some k => exact List.mem_map.2 ⟨_, nfind_mem hf, rfl⟩

section
variable {P : Pm} {d : Nat} {D : Dk} {A F : Mm} {w : World}

set_option maxRecDepth 100000 in
set_option maxHeartbeats 2000000 in
theorem dlist_ok (hD : DkM P d D A) (hn : D.nm.length ≤ 1000000) (hH : Hp w P (A ++ F)) :
    Calls Tryz.prog 80 #[ptr d] w fun e w' => ∃ v P', e = .returned v ∧ Sub P P' ∧ Pers P' (fun w => StrsR w v ((D.nm.map (·.1)).mergeSort Go.leB)) ∧ Hp w' P' (A ++ F) := by
  obtain ⟨nb, no, kb, ko, cv, Ac, Af, rfl, h2, h3, h4, h5, h6⟩ := id hD
  have hm : (d, Obj.cells (dkCells D nb kb cv) 82 (0, 0)) ∈ ((d, Obj.cells (dkCells D nb kb cv) 82 (0, 0)) :: (nb, no) :: (kb, ko) :: (Ac ++ Af)) ++ F := by simp
  have c1 : w.cell? ⟨d, 1, none⟩ = some (.map (some nb)) := hH.cell hm rfl
  obtain ⟨Dm, hown, hDm⟩ := h2.owns (hH.own (nb, no) (by simp))
  have hperm := keys_perm hown hDm
  have hsize : Maps.size Dm = D.nm.length := by rw [hDm.size]; simp [kvOf]
  have hmax : Maps.size Dm ≤ maxLen := by rw [hsize]; unfold maxLen; omega
  have hbytes : Maps.size Dm * 16 ≤ 140737488355328 := by rw [hsize]; omega
  have hbl := hown.lt
  refine (callsIn_wide (n := 6)).1 ?_
  have hseq : SeqGives Fence.wide 2 Tryz.prog 164 #[.pointer (some ⟨w.heap.size, 0, none⟩)] encStr (fun ss => ss.Perm (strKeys Dm)) (Maps.size Dm) (w.alloc (.cells #[.map (some nb)] 79)) :=
    AnyZ.keys_gives (ρ := Tryz.keysA_ren) { Tryz.keysA with } Fence.wide _ trivial rfl (by omega) w.heap.size nb _ Dm _ (by simp) (by simp) (by
      obtain ⟨es, clock, hb, Ft, hs, hD⟩ := hown
      exact ⟨es, clock, (Below.heap_alloc _ _ nb hbl).trans hb, Ft, hs, hD⟩)
  have cK : ∀ mb W, CallsIn Fence.wide 5 Tryz.prog 120 #[.map mb] W fun e w' => e = .returned (.func (.func 164) #[] #[.pointer (some ⟨W.heap.size, 0, none⟩)]) ∧ w' = W.alloc (.cells #[.map mb] 79) := fun mb W => AnyZ.keys_in Tryz.keysA Fence.wide 5 trivial rfl mb W
  have cS := AnyZ.sorted_in Tryz.sortedA Fence.wide 5 trivial trivial trivial trivial rfl (by omega) (sortsIn _) (enters_of Tryz.func163 (by kernel_rfl) rfl) 164 #[.pointer (some ⟨w.heap.size, 0, none⟩)] trivial (enters_of Tryz.func164 (by kernel_rfl) rfl) _ _ hmax hbytes _ hseq
  change CallsIn _ _ Tryz.prog 119 _ _ _ at cS
  have H0 := Lib.hid hH
  have HP := Lib.hid hperm
  clear hH hm h2 h3 h4 h5 h6 hown hDm hperm hsize hmax hbytes hbl hseq
  refine callsIn_wide.2 ?_
  replace cK := fun mb W => callsIn_wide.1 (cK mb W)
  replace cS := callsIn_wide.1 cS
  go_enter Tryz.func80, Tryz.ntmps80
  go_wp2_with fail
  refine (cK _ _).mono ?_
  rintro e w1 ⟨rfl, rfl⟩
  have CS := Lib.hid cS
  clear cS cK
  go_wp2_with fail
  refine CS.out.mono ?_
  rintro e w2 ⟨v, ss, rfl, hS, hrow, hnil, hb⟩
  have hH1 := (H0.out.alloc (.cells #[.map (some nb)] 79)).tail
  have hss : ss.mergeSort Go.leB = (D.nm.map (·.1)).mergeSort Go.leB := mergeSort_of_perm (hS.trans HP.out.symm)
  have hlen : ss.length = (ss.mergeSort Go.leB).length := (List.length_mergeSort _).symm
  obtain ⟨Ar, hr, hH2⟩ := Hp.rowNew hH1 (hH1.below hb (Nat.le_refl _)) hrow (Nat.le_refl _)
  have hr2 : RowM 9 1 v (ss.mergeSort Go.leB).length ((ss.mergeSort Go.leB).map str) Ar := by rw [← hlen]; exact hr
  rw [hss] at hr2
  obtain ⟨P3, hs3, hH3, hp3⟩ := hH2.sealStrs hr2
  have HF : Hid (∃ P', Sub P P' ∧ Pers P' (fun w => StrsR w v ((D.nm.map (·.1)).mergeSort Go.leB)) ∧ Hp w2 P' (((d, Obj.cells (dkCells D nb kb cv) 82 (0, 0)) :: (nb, no) :: (kb, ko) :: (Ac ++ Af)) ++ F)) := ⟨P3, hs3, hp3, hH3⟩
  clear hS hrow hnil hb hH1 hss hlen hr hH2 hr2 hH3 hp3 hs3
  go_wp2_with fail
  go_ret
  obtain ⟨P3, hs3, hp3, hH3⟩ := HF.out
  exact ⟨v, P3, rfl, hs3, hp3, hH3⟩
end
end Go.Proofs.YtncjffkpkmjgkaaGreatDoor.Sg

/-! Hl -/
namespace Go.Proofs.YtncjffkpkmjgkaaGreatDoor.Sg
open Go.RowKit Er Go.Maps

section
variable {D D' : Dk} {H H' : Hl} {b0 : Int} {l : List Bt}

theorem HotOn.congr (h : HotOn D H b0 l) (hd : H'.d = H.d) (he : H'.every = H.every) (hL : H'.L.map (·.2) = H.L.map (·.2)) : HotOn D H' b0 l := by
  have hm : ∀ p, p ∈ H'.L → ∃ q, q ∈ H.L ∧ q.2 = p.2 := fun p hp => by
    have : p.2 ∈ H'.L.map (·.2) := List.mem_map.2 ⟨p, hp, rfl⟩
    rw [hL] at this
    obtain ⟨q, hq, e⟩ := List.mem_map.1 this
    exact ⟨q, hq, e⟩
  have hm' : ∀ q, q ∈ H.L → ∃ p, p ∈ H'.L ∧ p.2 = q.2 := fun p hp => by
    have : p.2 ∈ H.L.map (·.2) := List.mem_map.2 ⟨p, hp, rfl⟩
    rw [← hL] at this
    obtain ⟨q, hq, e⟩ := List.mem_map.1 this
    exact ⟨q, hq, e⟩
  have hfl : (H'.L.map (·.2.l)) = (H.L.map (·.2.l)) := by
    have := congrArg (List.map Sg.l) hL
    rw [List.map_map, List.map_map] at this
    exact this
  have hln : H'.L.length = H.L.length := by
    have := congrArg List.length hL
    simpa using this
  refine ⟨fun p hp => ?_, h.I, h.room, h.used, by rw [hL]; exact h.lk, by rw [hfl]; exact h.fl, h.ch, fun s hs => h.only s (fun q hq => ?_), by rw [h.nml, hln], h.n, h.c0, h.kp, by rw [he]; exact h.e1, by rw [he]; exact h.e2, h.b0, h.sz⟩
  · obtain ⟨q, hq, e⟩ := hm p hp
    have := h.sg q hq
    rw [e] at this
    rw [hd, he]
    exact this
  · obtain ⟨p, hp, e⟩ := hm' q hq
    rw [← e]
    exact hs p hp

/-- .. of marks that are otherwise far apart. -/
theorem HotOn.reevery (h : HotOn D H b0 l) (every seg : Nat) (h1 : 1 ≤ every) (h2 : every ≤ 1048576) : HotOn D ⟨H.d, seg, every, H.L.map fun p => (p.1, { p.2 with every := every })⟩ b0 l := by
  have hk : ∀ (L : List (Nat × Sg)) (b : Int), Lk b (L.map (·.2)) → Lk b ((L.map fun p => (p.1, { p.2 with every := every })).map (·.2)) := by
    intro L
    induction L with
    | nil => intro b _; trivial
    | cons p L ih =>
      intro b hh
      exact ⟨hh.1, fun hne => hh.2.1 (by simpa using hne), ih _ hh.2.2⟩
  refine ⟨fun p hp => ?_, h.I, h.room, h.used, hk _ _ h.lk, ?_, h.ch, fun s hs => h.only s (fun q hq => ?_), by rw [h.nml]; simp, h.n, h.c0, h.kp, h1, h2, h.b0, h.sz⟩
  · obtain ⟨q, hq, rfl⟩ := List.mem_map.1 hp
    obtain ⟨k1, k2, k3, k4⟩ := h.sg q hq
    exact ⟨⟨k1.I, k1.ok, k1.by_, k1.base, k1.nm, k1.f, k1.room, k1.used⟩, k2, rfl, k4⟩
  · show ((H.L.map fun p => (p.1, { p.2 with every := every })).map (·.2.l)).flatten = l
    rw [List.map_map]
    exact h.fl
  · exact hs (q.1, { q.2 with every := every }) (List.mem_map.2 ⟨q, hq, rfl⟩)

/-! ### names in order -/
theorem lex_snoc : ∀ (l m : List UInt8) (a b : UInt8), l.length = m.length → (l < m ∨ (l = m ∧ a ≤ b)) → l ++ [a] ≤ m ++ [b]
  | [], [], a, b, _, h => by
    rcases h with h | ⟨-, h⟩
    · exact absurd h (List.lt_irrefl _)
    · rcases UInt8.le_iff_lt_or_eq.1 h with h | rfl
      · exact List.le_of_lt (List.Lex.rel h)
      · exact List.le_refl _
  | [], y :: m, _, _, h, _ => by simp at h
  | x :: l, [], _, _, h, _ => by simp at h
  | x :: l, y :: m, a, b, h, hor => by
    have hl : l.length = m.length := by simpa using h
    rw [List.cons_append, List.cons_append]
    rcases hor with hlt | ⟨e, hab⟩
    · rcases List.cons_lt_cons_iff.1 hlt with hxy | ⟨rfl, hlm⟩
      · exact List.le_of_lt (List.Lex.rel hxy)
      · rw [List.cons_le_cons_iff]
        exact .inr ⟨rfl, lex_snoc l m a b hl (.inl hlm)⟩
    · injection e with e1 e2
      subst e1
      rw [List.cons_le_cons_iff]
      exact .inr ⟨rfl, lex_snoc l m a b hl (.inr ⟨e2, hab⟩)⟩
theorem digs_lt : ∀ (k m n : Nat), m < n → n < 10 ^ k → digs k m < digs k n
  | 0, m, n, h, h2 => by simp at h2; omega
  | k + 1, m, n, h, h2 => by
    have hlen : (digs k (m / 10)).length = (digs k (n / 10)).length := by rw [digs_len, digs_len]
    have hne : digs (k + 1) m ≠ digs (k + 1) n := fun e => by
      have := digs_inj (k + 1) m n (by omega) h2 e
      omega
    have hle : digs (k + 1) m ≤ digs (k + 1) n := by
      rw [digs, digs]
      refine lex_snoc _ _ _ _ hlen ?_
      by_cases hq : m / 10 < n / 10
      · exact .inl (digs_lt k _ _ hq (by rw [Nat.pow_succ] at h2; omega))
      · have e : m / 10 = n / 10 := by omega
        refine .inr ⟨by rw [e], ?_⟩
        rw [UInt8.le_iff_toNat_le, UInt8.toNat_ofNat', UInt8.toNat_ofNat']
        omega
    exact Decidable.byContradiction fun hn => hne (List.le_antisymm hle (List.not_lt.1 hn))
theorem segNm_le (m n : Nat) (h : m < n) (hn : n ≤ 1099511627776) : segNm m ≤ segNm n := by
  unfold segNm
  exact List.append_left_le (List.le_of_lt (digs_lt 13 m n h (by omega)))
/-- The disk's names, in order, are the segments'. -/
theorem HotOn.sorted (h : HotOn D H b0 l) : (D.nm.map (·.1)).mergeSort Go.leB = H.L.map (·.2.nm) := by
  have hnd : (H.L.map (·.2.nm)).Pairwise (fun a b => a ≠ b ∧ a ≤ b) := by
    rw [List.pairwise_map, List.pairwise_iff_getElem]
    intro i j hi hj hij
    have hL : H.L = H.L.take j ++ ((H.L[j]).1, (H.L[j]).2) :: H.L.drop (j + 1) := (take_split H.L j hj).symm
    have hm : H.L[i] ∈ H.L.take j := by
      rw [List.mem_iff_getElem]
      exact ⟨i, by rw [List.length_take]; omega, by simp⟩
    have hb := (h.before hL hm).2
    obtain ⟨k1, -, -, k4⟩ := h.sg _ (List.getElem_mem hi)
    obtain ⟨m1, -, -, m4⟩ := h.sg _ (List.getElem_mem hj)
    rw [k4, m4]
    refine ⟨fun e => ?_, segNm_le _ _ hb m1.base⟩
    have := segNm_inj _ _ k1.base m1.base e
    omega
  have hperm : (D.nm.map (·.1)).Perm (H.L.map (·.2.nm)) := by
    have hn1 : (H.L.map (·.2.nm)).Nodup := hnd.imp (fun h => h.1)
    refine (List.perm_ext_iff_of_nodup h.I.nd hn1).2 fun s => ⟨fun hs => ?_, fun hs => ?_⟩
    · refine Decidable.byContradiction fun hn => ?_
      have hl := h.only s (fun p hp e => hn (List.mem_map.2 ⟨p, hp, e⟩))
      obtain ⟨p, hp, rfl⟩ := List.mem_map.1 hs
      obtain ⟨k, hk⟩ := nfind_of_mem hp
      rw [look_none h.I.w hl] at hk
      cases hk
    · obtain ⟨p, hp, rfl⟩ := List.mem_map.1 hs
      obtain ⟨f, hf, -⟩ := (h.sg p hp).1.f
      exact List.mem_map.2 ⟨_, nfind_mem (look_some hf).1, rfl⟩
  rw [mergeSort_of_perm hperm]
  refine List.mergeSort_of_pairwise (hnd.imp (fun h => ?_))
  simp only [Go.leB, decide_eq_true_eq]
  exact h.2
end

/-! ### follows -/
theorem prAdd_pre (out : List (Int × Int)) (p : Int × Int) : out <+: prAdd out p := by
  unfold prAdd
  split
  · exact List.prefix_append _ _
  · split
    · exact List.prefix_refl _
    · exact List.prefix_append _ _
theorem prsB_pre : ∀ (l : List Bt) (out : List (Int × Int)), out <+: prsB l out
  | [], _ => List.prefix_refl _
  | _ :: l, out => (prAdd_pre out _).trans (prsB_pre l _)
theorem prsB_first (x : Bt) (l : List Bt) : ∃ r, prsB (x :: l) [] = (x.e, x.b) :: r := by
  obtain ⟨r, hr⟩ := prsB_pre l [(x.e, x.b)]
  exact ⟨r, hr.symm⟩

/-- Whether a segment may stand behind another one. -/
def follB (G1 G2 : Sg) : Bool := decide ((G2.base : Int) = G1.end_) && (match G1.l.getLast?, G2.l.head? with | some x, some y => decide (x.e ≤ y.e) | _, _ => true)

section
variable {P : Pm} {s1 s2 : Nat} {G1 G2 : Sg} {A1 A2 F : Mm} {w : World}

set_option maxRecDepth 100000 in
set_option maxHeartbeats 1000000 in
theorem hfollows_ok (hG1 : SgM s1 G1 A1) (hW1 : SgW G1) (hG2 : SgM s2 G2 A2) (hW2 : SgW G2) (hH : Hp w P (A1 ++ (A2 ++ F))) :
    Calls Tryz.prog 82 #[ptr s1, ptr s2] w fun e w' => e = .returned (.bool (follB G1 G2)) ∧ Hp w' P (A1 ++ (A2 ++ F)) := by
  have H0 := Lib.hid hH
  obtain ⟨b, hb⟩ : ∃ b, (G2.base : Int) = b := ⟨_, rfl⟩
  obtain ⟨en, hen⟩ : ∃ en, G1.end_ = en := ⟨_, rfl⟩
  have HB := Lib.hid hb
  have HE := Lib.hid hen
  have ho1 := prsB_len G1.l []
  have hl1 := hW1.len
  clear hH hb hen
  go_enter Tryz.func82, Tryz.ntmps82
  go_wp2_with fail
  refine (sbase_any hG2 (Hp.mid H0.out)).mono ?_
  rintro e w1 ⟨rfl, rfl⟩
  rw [HB.out]
  go_wp2_with fail
  refine (end_any hG1 hW1 H0.out).mono ?_
  rintro e w2 ⟨rfl, hH2⟩
  rw [HE.out]
  have H2 := Lib.hid hH2
  clear hH2
  by_cases hbe : b = en
  · subst hbe
    go_wp2_with fail
    refine (spairs_ok hG1 hW1 H2.out).mono ?_
    rintro e w3 ⟨vp, Ap, rfl, hp, hH3⟩
    have hH4 : Hp w3 P (A2 ++ (Ap ++ (A1 ++ F))) := by
      have := hH3.perm (perm_mid (Ap ++ A1) A2 F |> fun h => by simpa [List.append_assoc] using h)
      simpa [List.append_assoc] using this
    have H4 := Lib.hid hH4
    have HP := Lib.hid hp
    clear hH3 hH4 hp
    go_wp2_with fail
    refine (spairs_ok hG2 hW2 H4.out).mono ?_
    rintro e w5 ⟨vq, Aq, rfl, hq, hH5⟩
    have hH6 : Hp w5 P (Ap ++ (Aq ++ (A1 ++ (A2 ++ F)))) := by
      have h1 := hH5.perm (perm_mid (Aq ++ A2) Ap (A1 ++ F) |> fun h => by simpa [List.append_assoc] using h)
      refine h1.perm (List.Perm.append_left Ap (List.Perm.append_left Aq ?_))
      exact perm_mid A2 A1 F
    have H6 := Lib.hid hH6
    have HQ := Lib.hid hq
    clear hH5 hH6 hq
    obtain ⟨pa, pc, hpv⟩ := HP.out.shape
    subst hpv
    obtain ⟨qa, qc, hqv⟩ := HQ.out.shape
    subst hqv
    have hfin : Hp w5 P (A1 ++ (A2 ++ F)) := H6.out.drop.drop
    have HF := Lib.hid hfin
    clear hfin
    rcases snoc_cases G1.l with h0 | ⟨l0, x, h0⟩
    · have hp0 : prsB G1.l [] = [] := by rw [h0]; rfl
      have HR : Hid (follB G1 G2 = true) := by
        show _ = _
        unfold follB
        rw [HB.out, HE.out, h0]
        simp
      rw [hp0]
      clear h0 hp0
      go_wp2_with fail
      go_quiet (fail)
      go_wp2_with fail
      go_ret
      exact ⟨by rw [HR.out]; rfl, HF.out.drewN _⟩
    · obtain ⟨o', q1, ho, hq1⟩ := prsB_last l0 x []
      rw [← h0] at ho
      have hcl : G2.l = [] ∨ ∃ y l2, G2.l = y :: l2 := by cases G2.l <;> simp
      rcases hcl with hl2 | ⟨y, l2, hl2⟩
      · have hq0 : prsB G2.l [] = [] := by rw [hl2]; rfl
        have hpl : (prsB G1.l []).length = o'.length + 1 := by rw [ho]; simp
        have HR : Hid (follB G1 G2 = true) := by
          show _ = _
          unfold follB
          rw [HB.out, HE.out, hl2]
          simp
        rw [hpl, hq0]
        obtain ⟨on, hon⟩ : ∃ on, o'.length = on := ⟨_, rfl⟩
        rw [hon]
        have i5 : ((on : Int) + 1 == 0) = false := beq_eq_false_iff_ne.2 (by omega)
        clear hl2 hq0 hpl ho h0 hon
        go_wp2_with fail
        go_quiet (fail)
        go_wp2_with fail
        go_ret
        exact ⟨by rw [HR.out]; rfl, HF.out.drewN _⟩
      · obtain ⟨r, hr⟩ := prsB_first y l2
        rw [← hl2] at hr
        have hpm : PrsM (.slice pa (prsB G1.l []).length pc) (o' ++ [q1]) Ap := by have := HP.out; rwa [ho] at this ⊢
        have hqm : PrsM (.slice qa (prsB G2.l []).length qc) ((y.e, y.b) :: r) Aq := by have := HQ.out; rwa [hr] at this ⊢
        obtain ⟨g1, c1, e1, hc1, z1⟩ := hpm.last H6.out
        obtain ⟨g2, c2, e2, hc2, z2, -⟩ := PrsM.get (l := (y.e, y.b) :: r) hqm (Hp.mid H6.out) (j := 0) (by simp)
        rw [hq1] at z1
        have hpl : (prsB G1.l []).length = o'.length + 1 := by rw [ho]; simp
        have hql : (prsB G2.l []).length = r.length + 1 := by rw [hr]; simp
        rw [hpl] at e1 ⊢
        rw [hql] at e2 ⊢
        cases e1
        cases e2
        obtain ⟨on, hon⟩ : ∃ on, o'.length = on := ⟨_, rfl⟩
        obtain ⟨rn, hrn⟩ : ∃ rn, r.length = rn := ⟨_, rfl⟩
        have HR : Hid (follB G1 G2 = decide (x.e ≤ y.e)) := by
          show _ = _
          unfold follB
          rw [HB.out, HE.out, h0, hl2]
          simp
        simp only [List.getElem_cons_zero, Nat.zero_mul] at z2
        rw [ho, List.length_append, List.length_singleton] at ho1
        rw [hon] at z1 hc1 ho1 ⊢
        have hcc2 : rn + 1 ≤ qc := by rw [List.length_cons, hrn] at hc2; exact hc2
        rw [hrn]
        have i1 : IntKind.i64.wrap (on : Int) = (on : Int) := IntWalk.i64_in _ (by simp at ho1; omega)
        have i2 : (0 : Int) ≤ (on : Int) := by omega
        have i4 : (on : Int) < (on : Int) + 1 := by omega
        have i5 : ((on : Int) + 1 == 0) = false := beq_eq_false_iff_ne.2 (by omega)
        have i6 : ((rn : Int) + 1 == 0) = false := beq_eq_false_iff_ne.2 (by omega)
        have i7 : (0 : Int) < (rn : Int) + 1 := by omega
        obtain ⟨xe, hxe⟩ : ∃ e, x.e = e := ⟨_, rfl⟩
        obtain ⟨ye, hye⟩ : ∃ e, y.e = e := ⟨_, rfl⟩
        rw [hxe] at z1 HR
        rw [hye] at z2 HR
        clear hpm hqm hpl hql ho hr h0 hl2 hq1 hon hrn hc2 hxe hye HP HQ ho1
        go_wp2_with fail
        go_quiet (fail)
        go_wp2_with fail
        go_ret
        exact ⟨by rw [HR.out]; rfl, HF.out.drewN _⟩
  · have HR : Hid (follB G1 G2 = false) := by
      show _ = _
      unfold follB
      rw [HB.out, HE.out, decide_eq_false hbe]; rfl
    have HX := Lib.hid (beq_eq_false_iff_ne.2 hbe)
    go_wp2_with fail
    go_ret
    exact ⟨by rw [HR.out]; rfl, H2.out⟩
end
end Go.Proofs.YtncjffkpkmjgkaaGreatDoor.Sg

/-! Hm -/
namespace Go.Proofs.YtncjffkpkmjgkaaGreatDoor.Sg
open Go.RowKit Er Go.Maps

theorem back_any (v : Value) (hv : v.oneCell' = true) (w : World) : Calls Tryz.prog 83 #[v] w fun e w' => e = .returned (.func (.func 125) #[] #[.pointer (some ⟨w.heap.size, 0, none⟩)]) ∧ w' = w.alloc (.cells #[v] 136) := by
  go_enter Tryz.func83, Tryz.ntmps83
  go_wp2_with fail
  go_ret
  exact ⟨rfl, rfl⟩

set_option maxRecDepth 100000 in
set_option maxHeartbeats 400000 in
/-- Over no strings there is no round. -/
theorem back_none (n b : Nat) (w : World) (a : Option Addr) (c : Nat) (hb : w.cell? ⟨b, 0, none⟩ = some (.slice a 0 c)) (encs : Empty → Array Value) (Kp : World → World → Prop) :
    SeqStopsK Fence.wide n Tryz.prog 125 #[.pointer (some ⟨b, 0, none⟩)] encs Kp (fun _ => True) (fun _ => False) 0 w := by
  intro l J Jx W hW hJ hJx hY h0
  have hlt := World.block_lt_of_cell? _ _ hb
  have hc : W.cell? ⟨b, 0, none⟩ = some (.slice a 0 c) := (hW.cell (p := ⟨b, 0, none⟩) hlt).trans hb
  refine callsIn_wide.2 ?_
  have H0 := Lib.hid h0
  clear hW hJ hJx hY h0 hb
  show Calls Tryz.prog 125 #[.func (.yield l) #[] #[], .pointer (some ⟨b, 0, none⟩)] W _
  go_enter Tryz.func125, Tryz.ntmps125
  go_wp2_with fail
  go_loopg [3] 0 (fun m vi wr => vi = .int .i64 (-1) ∧ wr = W)
  case atStart => exact ⟨rfl, rfl⟩
  case round =>
    obtain ⟨rfl, rfl⟩ := hrel
    go_wp2_with fail
    go_end0
    exact ⟨⟨_, rfl⟩, .inl ⟨[], trivial, H0.out⟩⟩

section
variable {S : List Nat} {E : Nat → Addr} {B : Nat} {P : Pm} {d seg every : Nat} {L0 : List (Nat × Sg)} {D : Dk} {Ad F : Mm} {w : World} {b0 : Int} {l : List Bt}

theorem HotOn.foll {H : Hl} (h : HotOn D H b0 l) {L1 L2 : List (Nat × Sg)} {s1 s2 : Nat} {G1 G2 : Sg} (hL : H.L = L1 ++ (s1, G1) :: (s2, G2) :: L2) : follB G1 G2 = true := by
  have hL' : H.L = (L1 ++ [(s1, G1)]) ++ (s2, G2) :: L2 := by rw [hL]; simp
  obtain ⟨c1, c2, -, -, -⟩ := h.split hL'
  have hb1 := (h.split (L2 := (s2, G2) :: L2) hL).2.1
  have hfl : ((L1 ++ [(s1, G1)]).map (·.2.l)).flatten = (L1.map (·.2.l)).flatten ++ G1.l := by simp
  rw [hfl] at c1 c2
  have he : (G2.base : Int) = G1.end_ := by rw [c2, endOf_app, ← hb1, end_eq]
  unfold follB
  rw [decide_eq_true he, Bool.true_and]
  rcases snoc_cases G1.l with h0 | ⟨g0, x, h0⟩
  · rw [h0]; rfl
  · rw [h0]
    rw [h0, ← List.append_assoc, epOf_snoc] at c1
    cases h2 : G2.l with
    | nil => simp
    | cons y g2 =>
      rw [h2] at c1
      simp only [List.getLast?_concat, List.head?_cons]
      exact decide_eq_true c1.2.1

/-- What holds at the head of Open's loop. -/
def HoRel (P : Pm) (Z F : Mm) (d seg every h n : Nat) (L0 : List (Nat × Sg)) (D : Dk) (b0 : Int) (l : List Bt) (m : Nat) (vb vi : Value) (wr : World) : Prop :=
  ∃ (k : Nat) (Ln : List (Nat × Sg)) (P' : Pm) (Ah Ad : Mm) (D' : Dk), k + m = n ∧ vi = .int .i64 k ∧ vb = .slice none 0 0 ∧ Sub P P' ∧ HlM h ⟨d, seg, every, Ln⟩ Ah ∧ DkM P' d D' Ad ∧ HotOn D' ⟨d, seg, every, Ln ++ L0.drop k⟩ b0 l ∧
    Ln.length = k ∧ Ln.map (·.2) = (L0.take k).map (·.2.syn) ∧ D'.used = D.used ∧ D'.room = D.room ∧ D'.n = D.n ∧ Hp wr P' (Ah ++ (Ad ++ (Z ++ F)))

theorem Hp.putObj {w : World} {P : Pm} {M : Mm} (h : Hp w P M) (D0 : Nat) (o : Obj) (hn : D0 ∉ ids M ∧ P.m D0 = none) : Hp (w.putObj D0 o) P M :=
  h.upd (Upd.of_grown (grownBy_putObj' w D0 o)) (fun k hk => by
    have : k = D0 := by simpa using hk
    subst this
    exact .inl hn)

def zBl (b : Nat) (d seg every : Nat) : Mm := [(b + 3, .cells #[.nilIface] 27 (0, 0)), (b + 2, .cells #[.pointer none] 53 (0, 0)), (b + 1, .cells #[.int .i64 seg, .int .i64 every] 65 (0, 0)), (b, .cells #[ptr d] 25 (0, 0))]

theorem ho_step {P7 P10 : Pm} {Z F A14 As0 As Ad10 : Mm} {d seg every h n s k gj : Nat} {L0 Ln : List (Nat × Sg)} {D D10 : Dk} {G : Sg} {b0 : Int} {l : List Bt} {v vi : Value} {wz : World} (hk : k + (gj + 1) = n) (hs : Sub P7 P10) (hLn : Ln.length = k)
    (hr : RowM 41 1 v (k + 1) (ptrsL Ln ++ (#[ptr s] : Array Value).toList) A14) (hS : SgsM Ln As0) (hG : SgM s G.syn As) (hD : DkM P10 d D10 Ad10) (hO : HotOn D10 ⟨d, seg, every, (Ln ++ [(s, G.syn)]) ++ L0.drop (k + 1)⟩ b0 l)
    (hm : Ln.map (·.2) = (L0.take k).map (·.2.syn)) (hm1 : (L0.take (k + 1)).map (·.2.syn) = (L0.take k).map (·.2.syn) ++ [G.syn]) (hx : D10.used = D.used ∧ D10.room = D.room ∧ D10.n = D.n) (hvi : vi = .int .i64 ((k + 1 : Nat) : Int))
    (hH : Hp wz P10 ((h, .cells #[ptr d, .int .i64 seg, .int .i64 every, v] 119 (0, 0)) :: (A14 ++ (As0 ++ (As ++ (Ad10 ++ (Z ++ F))))))) :
    HoRel P7 Z F d seg every h n L0 D b0 l gj (.slice none 0 0) vi wz := by
  refine ⟨k + 1, Ln ++ [(s, G.syn)], P10, _, Ad10, D10, by omega, hvi, rfl, hs, HlM.pushed (h := h) (s := s) (H := ⟨d, seg, every, Ln⟩) hLn.symm hr hS hG, hD, hO, by rw [List.length_append, hLn]; rfl, ?_, hx.1, hx.2.1, hx.2.2, ?_⟩
  · rw [List.map_append, hm, hm1]; rfl
  · simpa [hlCells, List.append_assoc] using hH

theorem memZ2 {A Z F : Mm} : ∀ y, y ∈ Z → y ∈ A ++ (Z ++ F) := fun _ hy => List.mem_append_right _ (List.mem_append_left _ hy)
theorem memZ3 {A A2 Z F : Mm} : ∀ y, y ∈ Z → y ∈ A ++ (A2 ++ (Z ++ F)) := fun _ hy => List.mem_append_right _ (memZ2 _ hy)

set_option maxRecDepth 100000 in
set_option maxHeartbeats 4000000 in
theorem hopen_on (C : Ctx S E B P) (hD : DkM P d D Ad) (hO : HotOn D ⟨d, seg, every, L0⟩ b0 l) (hs1 : 1 ≤ seg) (hs2 : seg ≤ 1048576) (hH : Hp w P (Ad ++ F)) :
    Calls Tryz.prog 31 #[ptr d, .agg #[.int .i64 seg, .int .i64 every]] w fun e w' => ∃ h P' Ah Ad' D' Ln, e = .returned (.tuple #[ptr h, .nilIface]) ∧ Sub P P' ∧ HlM h ⟨d, seg, every, Ln⟩ Ah ∧ DkM P' d D' Ad' ∧ HotOn D' ⟨d, seg, every, Ln⟩ b0 l ∧
      Ln.map (·.2) = L0.map (·.2.syn) ∧ D'.used = D.used ∧ D'.room = D.room ∧ D'.n = D.n ∧ Hp w' P' (Ah ++ (Ad' ++ F)) := by
  have e1 := hO.e1
  have e2 := hO.e2
  dsimp only at e1 e2
  have hsm := hO.small.2
  dsimp only at hsm
  have hnm := hO.nml
  dsimp only at hnm
  have hsorted := hO.sorted
  dsimp only at hsorted
  obtain ⟨n, hn⟩ : ∃ n, L0.length = n := ⟨_, rfl⟩
  have hH4 : Hp ((((w.alloc (.cells #[ptr d] 25)).alloc (.cells #[.int .i64 seg, .int .i64 every] 65)).alloc (.cells #[.pointer none] 53)).alloc (.cells #[.nilIface] 27)) P (Ad ++ (zBl w.heap.size d seg every ++ F)) := by
    have h4 := (((hH.alloc (.cells #[ptr d] 25)).alloc (.cells #[.int .i64 seg, .int .i64 every] 65)).alloc (.cells #[.pointer none] 53)).alloc (.cells #[.nilIface] 27)
    simp only [World.alloc_size'] at h4
    exact Hp.mid (A := zBl w.heap.size d seg every) (B := Ad) (C := F) h4
  obtain ⟨w4, hw4⟩ : ∃ w4, (((w.alloc (.cells #[ptr d] 25)).alloc (.cells #[.int .i64 seg, .int .i64 every] 65)).alloc (.cells #[.pointer none] 53)).alloc (.cells #[.nilIface] 27) = w4 := ⟨_, rfl⟩
  rw [hw4] at hH4
  obtain ⟨bx, hbx⟩ : ∃ bx, bx = w.heap.size := ⟨_, rfl⟩
  rw [← hbx] at hH4
  have HZ : Hid (∀ w' P' M, Hp w' P' M → (∀ y, y ∈ zBl bx d seg every → y ∈ M) → w'.cell? ⟨bx, 0, none⟩ = some (ptr d) ∧ w'.cell? ⟨bx + 1, 0, none⟩ = some (.int .i64 seg) ∧ w'.cell? ⟨bx + 1, 1, none⟩ = some (.int .i64 every)) := fun w' P' M hx hm =>
    ⟨hx.cell (hm (bx, .cells #[ptr d] 25 (0, 0)) (by simp [zBl])) rfl, hx.cell (hm (bx + 1, .cells #[.int .i64 seg, .int .i64 every] 65 (0, 0)) (by simp [zBl])) rfl, hx.cell (hm (bx + 1, .cells #[.int .i64 seg, .int .i64 every] 65 (0, 0)) (by simp [zBl])) rfl⟩
  have H4 := Lib.hid hH4
  have HD := Lib.hid hD
  have HO := Lib.hid hO
  have HSO := Lib.hid hsorted
  have HN := Lib.hid hn
  have HW4 := Lib.hid hw4
  have HBX := Lib.hid hbx
  have j1 : ¬ (seg : Int) < 1 := by omega
  have j2 : ¬ (1048576 : Int) < (seg : Int) := by omega
  rw [hn] at hnm hsm
  clear hH hH4 hD hO hsorted hn hw4 hbx
  refine (callsIn_wide (n := 6)).1 ?_
  refine callsIn_of_wp_marks Tryz.func31 rfl trivial ?_ rfl
  simp only [Tryz.ntmps31, List.size_toArray, List.length_cons, List.length_nil, Nat.reduceAdd, Nat.reduceSub, Array.replicate_succ, Array.replicate_zero, List.push_toArray, List.append_toArray, List.nil_append, List.cons_append]
  refine wpIn_wide.2 ?_
  go_wp2_with fail
  rw [HW4.out, ← HBX.out]
  obtain ⟨z0, z1, z2⟩ := HZ.out _ _ _ H4.out memZ2
  go_wp2_with fail
  refine (ixnew_ok every e1 e2).mono ?_
  rintro e w5 ⟨rfl, rfl⟩
  have hH5 := (H4.out.alloc (.cells (ixCells every) 170)).tail
  obtain ⟨z0, z1, z2⟩ := HZ.out _ _ _ hH5 memZ2
  obtain ⟨w5, hw5⟩ : ∃ w5, w4.alloc (.cells (ixCells every) 170) = w5 := ⟨_, rfl⟩
  rw [hw5] at hH5 z0 z1 z2 ⊢
  have hM6 : HlM w5.heap.size ⟨d, seg, every, []⟩ [(w5.heap.size, .cells #[ptr d, .int .i64 seg, .int .i64 every, .slice none 0 0] 119 (0, 0))] := ⟨.slice none 0 0, [], [], rfl, rowM_nil _ _, rfl⟩
  have hH6 := hH5.alloc (.cells #[ptr d, .int .i64 seg, .int .i64 every, .slice none 0 0] 119)
  obtain ⟨h, hh⟩ : ∃ h, h = w5.heap.size := ⟨_, rfl⟩
  rw [← hh] at hM6 hH6
  have hH6' : Hp (w5.alloc (.cells #[ptr d, .int .i64 seg, .int .i64 every, .slice none 0 0] 119)) P ([(h, .cells #[ptr d, .int .i64 seg, .int .i64 every, .slice none 0 0] 119 (0, 0))] ++ (Ad ++ (zBl bx d seg every ++ F))) := hH6
  obtain ⟨y0, y1, y2⟩ := HZ.out _ _ _ hH6' memZ3
  obtain ⟨w6, hw6⟩ : ∃ w6, w5.alloc (.cells #[ptr d, .int .i64 seg, .int .i64 every, .slice none 0 0] 119) = w6 := ⟨_, rfl⟩
  rw [hw6] at hH6'
  have H6 := Lib.hid hH6'
  have HM6 := Lib.hid hM6
  have HH := Lib.hid hh
  have HW6 := Lib.hid hw6
  clear hH5 hw5 hH6 hM6 hh hH6' hw6
  go_wp2_with fail
  rw [HW6.out, ← HH.out]
  clear y0 y1 y2
  refine (dlist_ok HD.out (by rw [hnm]; omega) (Hp.mid H6.out)).mono ?_
  rintro e w7 ⟨v7, P7, rfl, hs7, hp7, hH7⟩
  rw [HSO.out] at hp7
  obtain ⟨va, vc, hva, hvc⟩ := (hH7.use hp7).shape
  rw [List.length_map, HN.out] at hva hvc
  subst hva
  have H7 := Lib.hid (Hp.mid hH7)
  have HP7 := Lib.hid hp7
  have HS7 := Lib.hid hs7
  clear hH7 hp7 hs7
  have HSTART : Hid (HoRel P7 (zBl bx d seg every) F d seg every h n L0 D b0 l n (.slice none 0 0) (.int .i64 ((0 : Nat) : Int)) w7) :=
    ⟨0, [], P7, _, Ad, D, by omega, rfl, rfl, Sub.refl _, HM6.out, HD.out.sub HS7.out, HO.out, rfl, rfl, rfl, rfl, rfl, H7.out⟩
  go_wp2_with fail
  go_loopg [9, 46] n (fun m vb vi wr => HoRel P7 (zBl bx d seg every) F d seg every h n L0 D b0 l m vb vi wr)
  case atStart => exact HSTART.out
  case round =>
    obtain ⟨k, Ln, P8, Ah, Ad8, D8, hk, rfl, rfl, hs8, hM8, hD8, hO8, hLn, hmap, hu8, hr8, hn8, hH8⟩ := hrel
    by_cases hlt : k < n
    · obtain ⟨gj, rfl⟩ : ∃ x, gk = x + 1 := ⟨gk - 1, by omega⟩
      have hk0 : k < L0.length := by rw [HN.out]; exact hlt
      have hnk : k < (L0.map (·.2.nm)).length := by rw [List.length_map]; exact hk0
      obtain ⟨g, cc, hvv, hck⟩ := ((hH8.use (HP7.out.sub hs8))).at_ hnk
      rw [List.length_map, HN.out] at hvv
      simp only [Value.slice.injEq] at hvv
      obtain ⟨rfl, -, rfl⟩ := hvv
      obtain ⟨s0, hs0⟩ : ∃ s, (L0[k]).1 = s := ⟨_, rfl⟩
      obtain ⟨G, hG⟩ : ∃ G, (L0[k]).2 = G := ⟨_, rfl⟩
      have hdr : L0.drop k = (s0, G) :: L0.drop (k + 1) := by rw [List.drop_eq_getElem_cons hk0, ← hs0, ← hG]
      rw [hdr] at hO8
      have hL8 : Hl.L ⟨d, seg, every, Ln ++ (s0, G) :: L0.drop (k + 1)⟩ = Ln ++ (s0, G) :: L0.drop (k + 1) := rfl
      obtain ⟨hGO, hGd, hGe, hGn⟩ := hO8.sg (s0, G) (by simp)
      dsimp only at hGO hGd hGe hGn
      have hGeq : G = ⟨d, segNm G.base, G.base, every, G.l, G.kept⟩ := by rw [← hGn, ← hGd, ← hGe]
      have hchG := hO8.chain hL8
      have hbs := hGO.base
      simp only [List.getElem_map] at hck
      rw [hG, hGn] at hck
      have hmap1 : (L0.take (k + 1)).map (·.2.syn) = (L0.take k).map (·.2.syn) ++ [G.syn] := by rw [take_next L0 k hk0, List.map_append, List.map_singleton, hG]
      obtain ⟨z0, z1, z2⟩ := HZ.out _ _ _ hH8 memZ3
      have j3 : (k : Int) < (n : Int) := by omega
      have j4 : (0 : Int) ≤ (k : Int) := by omega
      have H8 := Lib.hid hH8
      have HM8 := Lib.hid hM8
      have HD8 := Lib.hid hD8
      have HO8 := Lib.hid hO8
      have HGEQ := Lib.hid hGeq
      have HGO := Lib.hid hGO
      have HCH := Lib.hid hchG
      have HMAP := Lib.hid hmap
      have HMAP1 := Lib.hid hmap1
      have HX8 := Lib.hid (show D8.used = D.used ∧ D8.room = D.room ∧ D8.n = D.n from ⟨hu8, hr8, hn8⟩)
      have HLN := Lib.hid hLn
      have HS8 := Lib.hid hs8
      have HK := Lib.hid hk
      obtain ⟨base, hbase⟩ : ∃ base, G.base = base := ⟨_, rfl⟩
      rw [hbase] at hck hbs
      have HBS := Lib.hid hbase
      clear hH8 hM8 hD8 hO8 hGeq hGO hchG hmap hmap1 hu8 hr8 hn8 hLn hs8 hk hs0 hG hdr hGd hGe hGn hL8 hbase
      go_wp2_with fail
      refine (nbase_ok base hbs _).mono ?_
      rintro e w9 ⟨rfl, rfl⟩
      go_wp2_with fail
      have hop := sopen_on ((C.sub HS7.out).sub HS8.out) HD8.out base every e1 e2 G.l G.kept (by have := HGO.out; rw [HGEQ.out, HBS.out] at this; exact this) (by have := HCH.out; rw [HBS.out] at this; exact this) (Hp.mid H8.out)
      refine hop.mono ?_
      rintro e w10 ⟨s, P10, As, Ad10, D10, rfl, hs10, hG10, hD10, hO10, hsm10, hu10, hl10, hH10⟩
      have hsyn : (⟨d, segNm base, base, every, G.l, sizes G.l⟩ : Sg) = G.syn := by
        show _ = { G with kept := sizes G.l }
        rw [HGEQ.out, HBS.out]
      rw [hsyn] at hG10 hO10
      have hkk : Lk b0 ((Ln ++ (s0, G.syn) :: L0.drop (k + 1)).map (·.2)) := by
        have h1 := HO8.out.lk
        rw [List.map_append, List.map_cons] at h1 ⊢
        refine Lk.join h1.left (fun _ => h1.full (by simp)) ?_
        have h2 := h1.app
        exact ⟨h2.1, fun hne => ⟨(h2.2.1 hne).1, rfl⟩, h2.2.2⟩
      have hO11 := HO8.out.turn (L1 := Ln) (L2 := L0.drop (k + 1)) (s := s0) (G := G) rfl G.syn rfl rfl rfl rfl hO10 hsm10 (by rw [hu10, hsm10.room]; exact HO8.out.used) (fun s' hs' => hl10 s' (by rw [← HBS.out]; intro e; apply hs'; rw [e]; have := HGEQ.out; rw [this])) l (by
        have := HO8.out.fl
        rw [← this]
        simp [Sg.syn]) HO8.out.ch hkk (by rw [hu10]; exact HO8.out.sz)
      have hO12 : HotOn D10 ⟨d, seg, every, (Ln ++ [(s, G.syn)]) ++ L0.drop (k + 1)⟩ b0 l := hO11.congr rfl rfl (by simp)
      have hH11 : Hp w10 P10 (Ah ++ (As ++ (Ad10 ++ (zBl bx d seg every ++ F)))) := by
        have := perm_mid (As ++ Ad10) Ah (zBl bx d seg every ++ F)
        exact hH10.perm (by simpa [List.append_assoc] using this)
      have HO12 := Lib.hid hO12
      have HO10 := Lib.hid hO10
      have HG10 := Lib.hid hG10
      have HD10 := Lib.hid hD10
      have H11 := Lib.hid hH11
      have HX10 := Lib.hid (show D10.used = D.used ∧ D10.room = D.room ∧ D10.n = D.n from ⟨hu10.trans HX8.out.1, hsm10.room.trans HX8.out.2.1, hsm10.n.trans HX8.out.2.2⟩)
      have HS10 := Lib.hid (HS8.out.trans hs10)
      have HLK := Lib.hid hkk
      clear hop hs10 hG10 hD10 hO10 hsm10 hu10 hl10 hH10 hsyn hkk hO11 hO12 hH11
      obtain ⟨lv, Al, As0, hAh, hr8, hS8⟩ := id HM8.out
      obtain ⟨la, lc, rfl⟩ := hr8.shape
      have hLL : (Hl.L ⟨d, seg, every, Ln⟩).length = k := HLN.out
      rw [hLL] at hAh hr8
      have c3 : w10.cell? ⟨h, 3, none⟩ = some (.slice la k lc) := H11.out.cell (b := h) (c := hlCells ⟨d, seg, every, Ln⟩ (.slice la k lc)) (t := 119) (fr := (0, 0)) (by rw [hAh]; simp) rfl
      have HAH := Lib.hid hAh
      have HR8 := Lib.hid hr8
      have HS80 := Lib.hid hS8
      clear hAh hr8 hS8 z0 z1 z2
      have hcase : k = 0 ∨ 0 < k := by omega
      rcases hcase with hk0' | hk0'
      case' inl =>
        subst hk0'
        have H12 := H11
        clear c3
        have c3 : w10.cell? ⟨h, 3, none⟩ = some (.slice la 0 lc) := H11.out.cell (b := h) (c := hlCells ⟨d, seg, every, Ln⟩ (.slice la 0 lc)) (t := 119) (fr := (0, 0)) (by rw [HAH.out]; simp) rfl
        have hH13 : Hp w10 P10 (Al ++ ((h, Obj.cells (hlCells ⟨d, seg, every, Ln⟩ (.slice la 0 lc)) 119 (0, 0)) :: (As0 ++ (As ++ (Ad10 ++ (zBl bx d seg every ++ F)))))) := by
          have h1 := H12.out
          rw [HAH.out] at h1
          have := perm_mid [(h, Obj.cells (hlCells ⟨d, seg, every, Ln⟩ (.slice la 0 lc)) 119 (0, 0))] Al (As0 ++ (As ++ (Ad10 ++ (zBl bx d seg every ++ F))))
          exact h1.perm (by simpa [List.append_assoc] using this)
        have H13 := Lib.hid hH13
        clear hH13
        go_wp2_with (at_builtin; refine wpList_push_hp rfl _ _ _ rfl 41 _ 1 8 Tryz.underlying117 infoSp rfl (by omega) (.slice la 0 lc) 0 (ptrsL Ln) rfl H13.out HR8.out #[ptr s] rfl rfl (by intro u hu; simp at hu; subst hu; rfl) (by omega) (by omega) ?_)
      case' inr =>
        have j5 : (0 : Int) < (k : Int) := by omega
        go_wp2_with fail
        obtain ⟨K0, sp, Gp, hKp⟩ : ∃ K0 sp Gp, Ln = K0 ++ [(sp, Gp)] := by
          rcases lastHl Ln with h0 | h0
          · have := HLN.out; rw [h0] at this; simp at this; omega
          · exact h0
        have hfol : follB Gp G.syn = true := HO12.out.foll (L1 := K0) (s1 := sp) (s2 := s) (L2 := L0.drop (k + 1)) (by show (Ln ++ [(s, G.syn)]) ++ L0.drop (k + 1) = _; rw [hKp]; simp)
        have hK0 : K0.length ≤ 1000000 := by have := HLN.out; rw [hKp] at this; simp at this; omega
        have hpm : (sp, Gp) ∈ (Ln ++ [(s, G.syn)]) ++ L0.drop (k + 1) := by rw [hKp]; simp
        have hGpW : SgW Gp := (HO12.out.W).g (sp, Gp) hpm
        have hGsW : SgW G.syn := HO10.out.W
        have HKP := Lib.hid hKp
        have HFOL := Lib.hid hfol
        clear hKp hfol hpm
        refine (hlast_ok HM8.out HKP.out hK0 H11.out).mono ?_
        rintro e w11 ⟨rfl, hHa⟩
        obtain ⟨Ap, Rp, hGp, hpp, -⟩ := HM8.out.focus (l2 := []) HKP.out
        have hHb : Hp w11 P10 (Ap ++ (As ++ (Rp ++ (Ad10 ++ (zBl bx d seg every ++ F))))) := (hHa.perm (hpp _)).perm (List.Perm.append_left Ap (perm_mid Rp As _))
        have HA := Lib.hid hHb
        have HPP := Lib.hid hpp
        clear hHa hHb hpp
        go_wp2_with fail
        refine (hfollows_ok hGp hGpW HG10.out hGsW HA.out).mono ?_
        rintro e w12 ⟨rfl, hHc⟩
        rw [HFOL.out]
        have hHd : Hp w12 P10 (Ah ++ (As ++ (Ad10 ++ (zBl bx d seg every ++ F)))) := (hHc.perm (List.Perm.append_left Ap (perm_mid As Rp _))).perm (HPP.out _).symm
        have c3 : w12.cell? ⟨h, 3, none⟩ = some (.slice la k lc) := hHd.cell (b := h) (c := hlCells ⟨d, seg, every, Ln⟩ (.slice la k lc)) (t := 119) (fr := (0, 0)) (by rw [HAH.out]; simp) rfl
        have H12 := Lib.hid hHd
        clear hHc hHd
        have hH13 : Hp w12 P10 (Al ++ ((h, Obj.cells (hlCells ⟨d, seg, every, Ln⟩ (.slice la k lc)) 119 (0, 0)) :: (As0 ++ (As ++ (Ad10 ++ (zBl bx d seg every ++ F)))))) := by
          have h1 := H12.out
          rw [HAH.out] at h1
          have := perm_mid [(h, Obj.cells (hlCells ⟨d, seg, every, Ln⟩ (.slice la k lc)) 119 (0, 0))] Al (As0 ++ (As ++ (Ad10 ++ (zBl bx d seg every ++ F))))
          exact h1.perm (by simpa [List.append_assoc] using this)
        have H13 := Lib.hid hH13
        clear hH13
        go_wp2_with (at_builtin; refine wpList_push_hp rfl _ _ _ rfl 41 _ 1 8 Tryz.underlying117 infoSp rfl (by omega) (.slice la k lc) k (ptrsL Ln) rfl H13.out HR8.out #[ptr s] rfl rfl (by intro u hu; simp at hu; subst hu; rfl) (by omega) (by omega) ?_)
      all_goals
        intro g7 c7 w14 A14 hr14 hH14
        have hH15 := Hp.mid (A := A14) (B := [_]) hH14
        have f3 := @Hp.frozen _ _ _ hH15 h _ 119 List.mem_cons_self 3
        have c3' := (@Hp.cell _ _ _ hH15 h _ 119 (0, 0) List.mem_cons_self) (i := 3) rfl
        have H15 := Lib.hid hH15
        have HR14 := Lib.hid hr14
        clear hH14 hH15 hr14
        go_wp2_with fail
        go_roundg gj
        case measure => omega
        case rel => exact ho_step HK.out HS10.out HLN.out HR14.out HS80.out HG10.out HD10.out HO12.out HMAP.out HMAP1.out HX10.out (by simp) (by simpa [hlCells] using Hp.set H15.out 3 _)
    · have hkn : k = n := by omega
      have hdr : L0.drop k = [] := by rw [hkn, ← HN.out]; exact List.drop_length
      have htk : L0.take k = L0 := by rw [hkn, ← HN.out]; exact List.take_length
      rw [hdr, List.append_nil] at hO8
      rw [htk] at hmap
      obtain ⟨z0, z1, z2⟩ := HZ.out _ _ _ hH8 memZ3
      have HFIN : Hid (HlM h ⟨d, seg, every, Ln⟩ Ah ∧ DkM P8 d D8 Ad8 ∧ HotOn D8 ⟨d, seg, every, Ln⟩ b0 l ∧ Ln.map (·.2) = L0.map (·.2.syn) ∧ D8.used = D.used ∧ D8.room = D.room ∧ D8.n = D.n) := ⟨hM8, hD8, hO8, hmap, hu8, hr8, hn8⟩
      have H8 := Lib.hid hH8
      have HS8 := Lib.hid hs8
      clear hH8 hM8 hD8 hO8 hmap hu8 hr8 hn8 hs8 hLn hdr htk hkn hk
      go_wp2_with fail
      refine (back_any _ rfl _).mono ?_
      rintro e w9 ⟨rfl, rfl⟩
      have hH9 := (H8.out.alloc (.cells #[.slice none 0 0] 136)).tail
      have c9 : (wr.alloc (.cells #[.slice none 0 0] 136)).cell? ⟨wr.heap.size, 0, none⟩ = some (.slice none 0 0) := by go_simp
      obtain ⟨bb, hbb⟩ : ∃ bb, wr.heap.size = bb := ⟨_, rfl⟩
      obtain ⟨w9, hw9⟩ : ∃ w9, wr.alloc (.cells #[.slice none 0 0] 136) = w9 := ⟨_, rfl⟩
      rw [hw9] at hH9 c9 ⊢
      rw [hbb] at c9 ⊢
      have H9 := Lib.hid hH9
      have C9 := Lib.hid c9
      clear hH9 c9 hw9 hbb z0 z1 z2
      go_wp2_with fail
      refine (wpIn_wide (n := 6)).1 ?_
      refine wpIn_rangeFunc_ownF (α := Empty) rfl (by omega) (gf := 125) (lb := #[.pointer (some ⟨bb, 0, none⟩)]) rfl trivial (enters_of Tryz.func125 (by kernel_rfl) rfl)
        (back_none 5 bb w9 none 0 C9.out (fun x => nomatch x) (fun _ _ => True)) (fun _ _ => trivial) (fun _ _ _ _ _ _ _ _ => trivial) (Below.refl _ _) (fun x => nomatch x) (fun _ W => Below w9.heap.size w9 W) (fun _ _ _ => False)
        (ownFrom_below (Nat.le_refl _) (Nat.le_refl _)) (fun _ _ _ _ _ h _ _ => h.elim) (Below.refl _ _) (fun x => nomatch x) (fun _ x => nomatch x) (fun _ _ x => nomatch x) ?done ?stop
      case stop => exact fun _ _ _ _ _ hf => hf.elim
      case done =>
        intro D0 xs W hDl _ hB hK
        have hHW := H9.out.below hB (Nat.le_refl _)
        have HHW := Lib.hid hHW
        have HB := Lib.hid hB
        have HK := Lib.hid hK
        have HDL := Lib.hid hDl
        clear hHW hB hK hDl
        have hz4 : W.cell? ⟨bx + 1 + 1, 0, none⟩ = some (.pointer none) := HHW.out.cell (b := bx + 2) (c := #[.pointer none]) (t := 53) (fr := (0, 0)) (memZ3 _ (by simp [zBl])) rfl
        have hf4 : W.frozen? ⟨bx + 1 + 1, 0, none⟩ = false := HHW.out.frozen (b := bx + 2) (c := #[.pointer none]) (t := 53) (memZ3 _ (by simp [zBl])) 0
        have hz5 : W.cell? ⟨bx + 1 + 1 + 1, 0, none⟩ = some .nilIface := HHW.out.cell (b := bx + 3) (c := #[.nilIface]) (t := 27) (fr := (0, 0)) (memZ3 _ (by simp [zBl])) rfl
        have hf5 : W.frozen? ⟨bx + 1 + 1 + 1, 0, none⟩ = false := HHW.out.frozen (b := bx + 3) (c := #[.nilIface]) (t := 27) (memZ3 _ (by simp [zBl])) 0
        have hset : Hp ((W.setCell ⟨bx + 1 + 1, 0, none⟩ (ptr h)).setCell ⟨bx + 1 + 1 + 1, 0, none⟩ .nilIface) P8 ((bx + 3, .cells #[.nilIface] 27 (0, 0)) :: (bx + 2, .cells #[ptr h] 53 (0, 0)) :: ((bx + 1, .cells #[.int .i64 seg, .int .i64 every] 65 (0, 0)) :: (bx, .cells #[ptr d] 25 (0, 0)) :: (Ah ++ (Ad8 ++ F)))) := by
          have h1 := Hp.mid (A := Ah ++ Ad8) (B := zBl bx d seg every) (C := F) (by simpa [List.append_assoc] using HHW.out)
          have h2 := (Hp.mid (A := [(bx + 3, .cells #[.nilIface] 27 (0, 0))]) (B := [(bx + 2, .cells #[.pointer none] 53 (0, 0))]) h1).set 0 (ptr h)
          have h3 := (Hp.mid (A := [_]) (B := [(bx + 3, .cells #[.nilIface] 27 (0, 0))]) h2).set 0 .nilIface
          simpa [List.append_assoc] using h3
        have HSET := Lib.hid hset
        clear hset
        simp only [Exit.inBlock, Exit.then]
        go_wp2_with fail
        obtain ⟨wz, hwz⟩ : ∃ wz, (W.setCell ⟨bx + 1 + 1, 0, none⟩ (ptr h)).setCell ⟨bx + 1 + 1 + 1, 0, none⟩ .nilIface = wz := ⟨_, rfl⟩
        have hK2 : wz.heap[D0]? = some (.deferred (some [])) := by
          rw [← hwz]
          exact ((KeepsOthers.setCell W _ _).trans (KeepsOthers.setCell _ _ _)).same D0 _ HK.out rfl
        have hset := HSET.out
        rw [hwz] at hset
        have hput := hset.putObj D0 (.deferred none) ⟨fun hm => by
            have h1 := H9.out.ids_lt D0 (by
              simp only [ids, List.map_cons, List.map_append, List.mem_cons, List.mem_append, zBl, List.map_nil, List.not_mem_nil, or_false] at hm ⊢
              rcases hm with h | h | h | h | h | h | h
              · exact .inr (.inr (.inl (.inl h)))
              · exact .inr (.inr (.inl (.inr (.inl h))))
              · exact .inr (.inr (.inl (.inr (.inr (.inl h)))))
              · exact .inr (.inr (.inl (.inr (.inr (.inr h)))))
              · exact .inl h
              · exact .inr (.inl h)
              · exact .inr (.inr (.inr h)))
            have := HDL.out
            omega, H9.out.outside HDL.out⟩
        have r4 := (@Hp.cell _ _ _ hput (bx + 2) #[ptr h] 53 (0, 0) (by simp)) (i := 0) rfl
        have r5 := (@Hp.cell _ _ _ hput (bx + 3) #[.nilIface] 27 (0, 0) (by simp)) (i := 0) rfl
        obtain ⟨f1, f2, f3, f4, f5, f6, f7⟩ := HFIN.out
        show LeavesInM _ _ _ _ _ _ _ _ ((W.setCell ⟨bx + 1 + 1, 0, none⟩ (ptr h)).setCell ⟨bx + 1 + 1 + 1, 0, none⟩ .nilIface)
        rw [hwz]
        refine ⟨by simp, .inl ⟨D0, _, rfl, run_takeDeferred hK2, ?_⟩⟩
        have r4' : (wz.putObj D0 (.deferred none)).cell? ⟨bx + 1 + 1, 0, none⟩ = some (ptr h) := r4
        have r5' : (wz.putObj D0 (.deferred none)).cell? ⟨bx + 1 + 1 + 1, 0, none⟩ = some .nilIface := r5
        refine ⟨.tuple #[ptr h, .nilIface], by simp [results, Tryz.results31, go_sem, r4', r5'], h, P8, Ah, Ad8, D8, Ln, rfl, HS7.out.trans HS8.out, f1, f2, f3, f4, f5, f6, f7, ?_⟩
        exact hput.drop (M := [_, _, _, _])
end
end Go.Proofs.YtncjffkpkmjgkaaGreatDoor.Sg

/-! Hz -/
namespace Go.Proofs.YtncjffkpkmjgkaaGreatDoor.Sg
open Go.RowKit Er Go.Maps

theorem btsV_len (l : List (Bt × Value)) : (btsV l).length = l.length * 3 := by
  induction l with
  | nil => rfl
  | cons p l ih => unfold btsV at ih ⊢; simp only [List.flatMap_cons, List.length_append, List.length_cons, List.length_nil, ih]; omega
theorem btsV_get : ∀ (l : List (Bt × Value)) (j : Nat) (u : Value), (btsV l)[j]? = some u → ∃ p, l[j / 3]? = some p ∧ ([Value.int .i64 p.1.b, .int .i64 p.1.e, p.2] : List Value)[j % 3]? = some u
  | [], j, u, h => by simp [btsV] at h
  | p :: l, j, u, h => by
    have e : btsV (p :: l) = [Value.int .i64 p.1.b, .int .i64 p.1.e, p.2] ++ btsV l := rfl
    rw [e] at h
    by_cases hj : j < 3
    · rw [List.getElem?_append_left (by simpa using hj)] at h
      exact ⟨p, by rw [Nat.div_eq_of_lt hj]; rfl, by rw [Nat.mod_eq_of_lt hj]; exact h⟩
    · rw [List.getElem?_append_right (by simp; omega)] at h
      obtain ⟨q, h1, h2⟩ := btsV_get l (j - 3) u (by simpa using h)
      refine ⟨q, ?_, ?_⟩
      · rw [show j / 3 = (j - 3) / 3 + 1 from by omega, List.getElem?_cons_succ]; exact h1
      · rw [show j % 3 = (j - 3) % 3 from by omega]; exact h2

section
variable {w : World} {P : Pm} {A F : Mm} {o : Oper} {a : Act} {Q : Exit → Act → World → Prop} {ops : Array Oper} {rest : List Oper}

theorem wpList_app_bts (hgd : o.guard = none) (s x : Operand) (ho : o.op = .call { callee := .builtin .append, args := #[s, x], argTypes := #[33, 33] })
    (v : Value) (L : List Bt) (out : List (Bt × Value)) (hs : a.eval s = v) (hr : BtsM P v L out A) (u : Value) (out2 : List (Bt × Value)) (hx : a.eval x = u) (hu : BtsP P u out2) (hH : Hp w P (A ++ F))
    (hn : L.length + out2.length ≤ 1000000000)
    (h : ∀ v' w' A', BtsM P v' (L ++ out2.map (·.1)) (out ++ out2) A' → Hp w' P (A' ++ F) → wpList Tryz.prog ops Q rest (a.put o.dst v') w') :
    wpList Tryz.prog ops Q (o :: rest) a w := by
  obtain ⟨i0, hi, hz0, hz1, hz2⟩ := info_parts infoBt
  have hbb : (L.length + out2.length) * 40 ≤ 140737488355328 := by omega
  have hrs2 : Pers P (fun w => ∀ p, p ∈ out2 → RcsN w p.2 p.1.r []) := by
    rcases hu with ⟨-, rfl⟩ | ⟨g, off, cap, -, -, -, hc⟩
    · intro w1 _ p hp; cases hp
    · intro w1 hw p hp
      obtain ⟨k, hk⟩ := List.getElem?_of_mem hp
      obtain ⟨-, -, -, -, hrc⟩ := hc k p hk w1 hw
      exact rcsN_nil hrc
  have fin : ∀ v' w', w'.ownsRow 0 38 3 v' (L.length + out2.length) (btsV out ++ btsV out2) → w.grownBy w' v.ownBlock → (v'.ownBlock = v.ownBlock ∨ v'.ownBlock = some w.heap.size) → wpList Tryz.prog ops Q rest (a.put o.dst v') w' := by
    intro v' w' hown hg hat
    obtain ⟨A', hr', hH'⟩ := hH.rowGrown hr.row hg hown (by
      rcases hat with e1 | e1
      · exact .inl e1
      · exact .inr ⟨w.heap.size, e1, Nat.le_refl _⟩)
    refine h v' w' A' ⟨by rw [List.map_append, hr.map], ?_, fun w1 hw p hp => ?_⟩ hH'
    · rw [List.length_append, List.length_map, btsV_app]; exact hr'
    · rcases List.mem_append.1 hp with hp | hp
      · exact hr.rs w1 hw p hp
      · exact hrs2 w1 hw p hp
  rcases hu with ⟨rfl, rfl⟩ | ⟨g, off, cap, rfl, hcap, hg, hc⟩
  · refine wpList_append_own_none hgd s x _ ho 0 38 i0 3 Tryz.underlying33 hi v L.length (btsV out) hs (hr.row.owns hH) hx ?_
    exact fin v w (by simpa [btsV] using hr.row.owns hH) ⟨rfl, rfl, rfl, Nat.le_refl _, fun _ _ _ => rfl⟩ (.inl rfl)
  · refine wpList_append_own_at w hgd s x _ ho 0 38 i0 (.agg #[.int .i64 0, .int .i64 0, .slice none 0 0]) 3 40 Tryz.underlying33 hi hz0 hz1 hz2 rfl (by decide) v L.length (btsV out) hs (hr.row.owns hH) ⟨g, off, none⟩ out2.length cap (btsV out2) hx
      (btsV_len _) (fun j u hj => ?_) (fun u hu => ?_) (by unfold maxLen; omega) hbb (Nat.zero_le _) fun v' w' h1 h2 _ h4 => fin v' w' h1 h2 h4
    · obtain ⟨p, hp, hq⟩ := btsV_get out2 j u hj
      obtain ⟨-, c0, c1, c2, -⟩ := hH.use (hc (j / 3) p hp)
      rw [addr_add']
      have hm : j % 3 = 0 ∨ j % 3 = 1 ∨ j % 3 = 2 := by omega
      rcases hm with hm | hm | hm <;> rw [hm] at hq <;> cases hq
      · rw [show off + j = off + j / 3 * 3 from by omega]; exact c0
      · rw [show off + j = off + j / 3 * 3 + 1 from by omega]; exact c1
      · rw [show off + j = off + j / 3 * 3 + 2 from by omega]; exact c2
    · obtain ⟨j, hj⟩ := List.getElem?_of_mem hu
      obtain ⟨p, hp, hq⟩ := btsV_get out2 j u hj
      obtain ⟨-, -, -, -, hrc⟩ := hH.use (hc (j / 3) p hp)
      obtain ⟨ra, rc, hra⟩ := hrc.shape
      have hm : j % 3 = 0 ∨ j % 3 = 1 ∨ j % 3 = 2 := by omega
      rcases hm with hm | hm | hm <;> rw [hm] at hq <;> cases hq
      · rfl
      · rfl
      · rw [hra]; rfl
end
end Go.Proofs.YtncjffkpkmjgkaaGreatDoor.Sg

/-! Hn -/
namespace Go.Proofs.YtncjffkpkmjgkaaGreatDoor.Sg
open Go.RowKit Er Go.Maps

theorem hot0 (room d seg every : Nat) (base : Nat) (h1 : 1 ≤ every) (h2 : every ≤ 1048576) (hr : room ≤ 4194304) : HotOn (dk0 room) ⟨d, seg, every, []⟩ base [] :=
  ⟨by simp, dk0_I room, hr, Nat.zero_le _, trivial, rfl, trivial, fun _ _ => rfl, rfl, by simp [dk0], rfl, rfl, h1, h2, by omega, Nat.zero_le _⟩

section
variable {S : List Nat} {E : Nat → Addr} {B : Nat} {P : Pm} {F : Mm} {w : World}

/-- What holds at the head of made's loop. -/
def M10Rel (P : Pm) (F : Mm) (d h seg : Nat) (base : Int) (L : List Bt) (m : Nat) (vi : Value) (w : World) : Prop :=
  ∃ (k : Nat) (P' : Pm) (A Ad : Mm) (D : Dk) (H : Hl), k + m = L.length ∧ vi = .int .i64 k ∧ Sub P P' ∧ HlM h H A ∧ DkM P' H.d D Ad ∧ HotOn D H base (L.take k) ∧ H.d = d ∧ H.seg = seg ∧ H.every = 60 ∧ H.L.map (·.2.l) = stL (rollF seg (L.take k)) ∧
    D.room = 1048576 ∧ D.used = sizes (L.take k) ∧ D.n ≤ k + 1 ∧ H.L ≠ [] ∧ Hp w P' (A ++ (Ad ++ F))

set_option maxRecDepth 100000 in
set_option maxHeartbeats 2000000 in
theorem made10_ok (C : Ctx S E B P) (seg : Nat) (hs1 : 1 ≤ seg) (hs2 : seg ≤ 1048576) (base : Nat) (hb : base ≤ 1099511627776) (v : Value) (out : List (Bt × Value)) (hv : BtsP P v out)
    (L : List Bt) (hL : out.map (·.1) = L) (hch : Chain base 0 L) (hok : ∀ x, x ∈ L → BtOk x ∧ BtBy x) (hsz : sizes L ≤ 1048576) (hH : Hp w P F) :
    Calls Tryz.prog 24 #[.int .i64 seg, v, .int .i64 base] w fun e w' => ∃ d h P' A Ad D H, e = .returned (.tuple #[ptr d, ptr h]) ∧ Sub P P' ∧ HlM h H A ∧ DkM P' H.d D Ad ∧ HotOn D H base L ∧ H.d = d ∧ H.seg = seg ∧ H.every = 60 ∧
      H.L.map (·.2.l) = stL (rollF seg L) ∧ D.room = 1048576 ∧ D.used = sizes L ∧ D.n ≤ L.length + 1 ∧ H.L ≠ [] ∧ Hp w' P' (A ++ (Ad ++ F)) := by
  obtain ⟨va, vc, rfl, hvc⟩ := hv.shape
  have hlen : out.length = L.length := by rw [← hL, List.length_map]
  rw [hlen] at hv hvc ⊢
  have hll : L.length ≤ 47663 := by have := sizes_low L; omega
  have H := Lib.hid hH
  have HV := Lib.hid hv
  have HL := Lib.hid hL
  have HLN := Lib.hid hlen
  have HSZ := Lib.hid hsz
  have HCH := Lib.hid hch
  clear hH hv hL hlen hsz hch
  go_enter Tryz.func24, Tryz.ntmps24
  go_wp2_with fail
  refine (new_ok H.out 1048576 (by omega) (by omega)).mono ?_
  rintro e w1 ⟨d, Ad, rfl, hD, hH1⟩
  have H1 := Lib.hid hH1
  have HD := Lib.hid hD
  clear hH1 hD
  go_wp2_with fail
  have hop := hopen_on (L0 := []) (every := 60) (d := d) C HD.out (hot0 1048576 d seg 60 base (by omega) (by omega) (by omega)) hs1 hs2 H1.out
  refine hop.mono ?_
  rintro e w2 ⟨h, P2, Ah, Ad2, D2, Ln, rfl, hs2', hM2, hD2, hO2, hmap2, hu2, hr2, hn2, hH2⟩
  obtain rfl : Ln = [] := by
    have := congrArg List.length hmap2
    simp at this
    exact this
  have H2 := Lib.hid hH2
  have HM2 := Lib.hid hM2
  have HD2 := Lib.hid hD2
  have HO2 := Lib.hid hO2
  have HS2 := Lib.hid hs2'
  have HX2 : Hid (D2.used = 0 ∧ D2.room = 1048576 ∧ D2.n = 0) := ⟨hu2, hr2, hn2⟩
  clear hop hH2 hM2 hD2 hO2 hs2' hmap2 hu2 hr2 hn2
  go_wp2_with fail
  have hbg := hbegin_ok (C.sub HS2.out) HM2.out rfl HD2.out base hb HO2.out (by rw [HX2.out.2.2]; omega) H2.out
  refine hbg.mono ?_
  rintro e w3 ⟨rfl, s3, A3, Ad3, D3, hM3, hD3, hO3, hMd3, hH3⟩
  have hstart : M10Rel P F d h seg base L L.length (.int .i64 ((0 : Nat) : Int)) w3 :=
    ⟨0, P2, A3, Ad3, D3, _, by omega, rfl, HS2.out, hM3, hD3, hO3, rfl, rfl, rfl, rfl, hMd3.room.trans HX2.out.2.1, hMd3.used.trans HX2.out.1, by rw [hMd3.n, HX2.out.2.2]; omega, by simp, hH3⟩
  have HS := Lib.hid hstart
  clear hbg hM3 hD3 hO3 hMd3 hH3 hstart
  go_wp2_with fail
  go_loopg [12] L.length (fun m vi wr => M10Rel P F d h seg base L m vi wr)
  case atStart => exact HS.out
  case round =>
    obtain ⟨k, P1, A, Ad1, D, Hh, hk, rfl, hs1', hM, hD1, hO, hd, hseg, hev, hroll, hroom, hused, hn, hne, hHr⟩ := hrel
    by_cases hlt : k < L.length
    · obtain ⟨gj, rfl⟩ : ∃ x, gk = x + 1 := ⟨gk - 1, by omega⟩
      have hko : k < out.length := by have := HLN.out; omega
      obtain ⟨g, off, cap, hvv, hcap, hbc⟩ := HV.out.at_ hko
      simp only [Value.slice.injEq] at hvv
      obtain ⟨rfl, -, rfl⟩ := hvv
      have hx : (out[k]'hko).1 = L[k] := by have := HL.out; subst this; simp
      obtain ⟨x, hxd⟩ : ∃ x, x = L[k] := ⟨_, rfl⟩
      obtain ⟨p2, hp2⟩ : ∃ p2, (out[k]'hko).2 = p2 := ⟨_, rfl⟩
      obtain ⟨-, c0, c1, c2, -⟩ := hHr.use (hbc.sub hs1')
      have hbv : Pers P1 (fun w => BtV w (.agg #[.int .i64 x.b, .int .i64 x.e, p2]) x) := (hbc.sub hs1').imp (fun w1 h => by
        obtain ⟨-, -, -, -, h5⟩ := h
        rw [hxd, ← hx, ← hp2]
        exact ⟨_, rfl, h5⟩)
      rw [hx, ← hxd] at c0 c1
      rw [hp2] at c2
      obtain ⟨pa, pl, pc, rfl⟩ : ∃ a l c, p2 = .slice a l c := by
        obtain ⟨r', h1, h2⟩ := hHr.use hbv
        cases h1
        obtain ⟨a, c, e⟩ := h2.shape
        exact ⟨a, _, c, e⟩
      have hsplit := (chain_app (L.take k) (L[k] :: L.drop (k + 1)) base 0).1 (by rw [take_split L k hlt]; exact HCH.out)
      have hxb0 : x.b = endOf base (L.take k) := by rw [hxd]; exact hsplit.2.1
      have hxe0 : epOf 0 (L.take k) ≤ x.e := by rw [hxd]; exact hsplit.2.2.1
      obtain ⟨hxo, hxb⟩ := hok x (by rw [hxd]; exact List.getElem_mem hlt)
      have hsk := sizes_take L k hlt
      rw [← hxd] at hsk
      have htn := take_next L k hlt
      rw [← hxd] at htn
      have hup : D.used + szB x ≤ D.room := by rw [hused, hroom]; have := HSZ.out; omega
      obtain ⟨K0, s0, G0, hK0⟩ : ∃ K0 s0 G0, Hh.L = K0 ++ [(s0, G0)] := by
        rcases lastHl Hh.L with h0 | h0
        · exact absurd h0 hne
        · exact h0
      have j1 : (k : Int) < (L.length : Int) := by omega
      have j2 : (0 : Int) ≤ (k : Int) := by omega
      have HBV := Lib.hid hbv
      have HR := Lib.hid hHr
      have HTN := Lib.hid htn
      have HX := Lib.hid (show Hh.d = d ∧ Hh.seg = seg ∧ Hh.every = 60 ∧ D.room = 1048576 ∧ D.used = sizes (L.take k) ∧ D.n ≤ k + 1 from ⟨hd, hseg, hev, hroom, hused, hn⟩)
      have HRO := Lib.hid hroll
      have HM := Lib.hid hM
      have HD1 := Lib.hid hD1
      have HO := Lib.hid hO
      have HK0 := Lib.hid hK0
      have HXB := Lib.hid hxb0
      have HXE := Lib.hid hxe0
      have HUP := Lib.hid hup
      have HS1 := Lib.hid hs1'
      have HGJ := Lib.hid (show k + gj + 1 = L.length from by omega)
      clear hbv hHr htn hused hroom hn hk hx hxd hp2 hbc hd hseg hev hroll hM hD1 hO hK0 hxb0 hxe0 hup hs1' hsplit hsk hne
      go_wp2_with fail
      refine (happend_on (C.sub HS1.out) HM.out HO.out HD1.out HK0.out x hxo hxb _ HBV.out HXB.out HXE.out HUP.out (by have := HX.out.2.2.2.2.2; omega) HR.out).mono ?_
      rintro e w4 ⟨rfl, P4, A4, Ad4, D4, H4, hs4, hM4, hD4, hO4, hA4, hH4⟩
      have hrel4 : M10Rel P F d h seg base L gj (.int .i64 ((k + 1 : Nat) : Int)) w4 :=
        ⟨k + 1, P4, A4, Ad4, D4, H4, by have := HGJ.out; omega, rfl, HS1.out.trans hs4, hM4, by rw [hA4.d]; exact hD4, by rw [HTN.out]; exact hO4, hA4.d.trans HX.out.1, hA4.seg.trans HX.out.2.1, hA4.every.trans HX.out.2.2.1, by
          rw [HTN.out, rollF_snoc, ← HX.out.2.1]
          refine (hA4.roll _ ?_).symm
          rw [HRO.out, HX.out.2.1], hA4.room.trans HX.out.2.2.2.1, by rw [hA4.used, HX.out.2.2.2.2.1, HTN.out, sizes_app]; simp [sizes], by have := hA4.n; have := HX.out.2.2.2.2.2; omega, hA4.ne, hH4⟩
      have HR4 := Lib.hid hrel4
      clear hrel4 hM4 hD4 hO4 hA4 hH4 hs4
      go_wp2_with fail
      go_roundg gj
      case measure => omega
      case rel => exact HR4.out
    · have hkl : k = L.length := by omega
      have e : L.take k = L := by rw [hkl]; exact List.take_length
      rw [e] at hO hroll hused
      rw [hkl] at hn
      have HF : Hid (∃ d' h' P' A Ad D H, (ptr d = ptr d' ∧ ptr h = ptr h') ∧ Sub P P' ∧ HlM h' H A ∧ DkM P' H.d D Ad ∧ HotOn D H base L ∧ H.d = d' ∧ H.seg = seg ∧ H.every = 60 ∧ H.L.map (·.2.l) = stL (rollF seg L) ∧ D.room = 1048576 ∧ D.used = sizes L ∧ D.n ≤ L.length + 1 ∧ H.L ≠ [] ∧ Hp wr P' (A ++ (Ad ++ F))) :=
        ⟨d, h, P1, A, Ad1, D, Hh, ⟨rfl, rfl⟩, hs1', hM, hD1, hO, hd, hseg, hev, hroll, hroom, hused, hn, hne, hHr⟩
      clear hs1' hM hD1 hO hd hseg hev hroll hroom hused hn hne hHr hkl e
      go_wp2_with fail
      go_ret2
      obtain ⟨d', h', P', A', Ad', D', H', ⟨e1, e2⟩, r⟩ := HF.out
      exact ⟨d', h', P', A', Ad', D', H', by rw [← e1, ← e2]; rfl, r⟩
end
end Go.Proofs.YtncjffkpkmjgkaaGreatDoor.Sg

/-! Ho -/
namespace Go.Proofs.YtncjffkpkmjgkaaGreatDoor.Sg
open Go.RowKit Er Go.Maps

theorem row111 : ∃ x0 x1 x2 : Bt, rowGo 0 [1, 1, 1] 0 0 = [x0, x1, x2] := ⟨_, _, _, rfl⟩
theorem roll111 (x0 x1 x2 : Bt) : (stL (rollF 1 [x0, x1, x2])).length = 3 := by
  have h0 := szB_low x0
  have h1 := szB_low x1
  have h2 := szB_low x2
  have e0 : rollF 1 [x0] = ([], [x0]) := by
    show rollAdd 1 ([], []) x0 = _
    unfold rollAdd
    rw [if_neg (by simp [sizes])]; rfl
  have e1 : rollF 1 [x0, x1] = ([[x0]], [x1]) := by
    show rollF 1 ([x0] ++ [x1]) = _
    rw [rollF_snoc, e0]
    unfold rollAdd
    rw [if_pos (by simp [sizes]; omega)]; rfl
  have e2 : rollF 1 [x0, x1, x2] = ([[x0], [x1]], [x2]) := by
    show rollF 1 ([x0, x1] ++ [x2]) = _
    rw [rollF_snoc, e1]
    unfold rollAdd
    rw [if_pos (by simp [sizes]; omega)]; rfl
  rw [e2]; rfl

section
variable {S : List Nat} {E : Nat → Addr} {B : Nat} {P : Pm} {F : Mm} {w : World}

set_option maxRecDepth 100000 in
set_option maxHeartbeats 1000000 in
theorem first10_ok (C : Ctx S E B P) (hH : Hp w P F) :
    Calls Tryz.prog 21 #[] w fun e w' => e = .returned (.bool true) ∧ ∃ P', Sub P P' ∧ Hp w' P' F := by
  obtain ⟨L, hLd⟩ : ∃ L, L = rowGo 0 [1, 1, 1] 0 0 := ⟨_, rfl⟩
  have hch : Chain 0 0 L := by rw [hLd]; exact row_chain 0 [1, 1, 1] 0 0 0 (by decide)
  have hok : ∀ x, x ∈ L → BtOk x ∧ BtBy x := by rw [hLd]; exact row_ok 0 [1, 1, 1] 0 0 (by decide) (by decide) (by decide)
  obtain ⟨x0, x1, x2, hr⟩ := row111
  have hsz : sizes L ≤ 1048576 := by
    have h0 := szB_le x0 (hok x0 (by rw [hLd, hr]; simp)).1
    have h1 := szB_le x1 (hok x1 (by rw [hLd, hr]; simp)).1
    have h2 := szB_le x2 (hok x2 (by rw [hLd, hr]; simp)).1
    rw [hLd, hr]
    simp [sizes]; omega
  have hroll : (stL (rollF 1 L)).length = 3 := by rw [hLd, hr]; exact roll111 x0 x1 x2
  have hC2 : ∃ P2, Sub P P2 ∧ Hp (w.alloc (.cells #[.int .i64 1, .int .i64 1, .int .i64 1] 3)) P2 F ∧ Pers P2 (fun w1 => IntsR w1 (some ⟨w.heap.size, 0, none⟩) [1, 1, 1]) := by
    obtain ⟨P2, h1, h2, h3⟩ := hH.lay (.cells #[.int .i64 1, .int .i64 1, .int .i64 1] 3)
    refine ⟨P2, h1, h2, fun w1 hw k x hx => ?_⟩
    have hb := hw.m _ _ h3
    refine ⟨w.heap.size, 0, rfl, (Array.getElem?_eq_some_iff.1 hb).1, ?_⟩
    have hj : k < 3 := (List.getElem?_eq_some_iff.1 hx).1
    rcases k with _ | _ | _ | k
    · cases hx; simp [World.cell?, hb]
    · cases hx; simp [World.cell?, hb]
    · cases hx; simp [World.cell?, hb]
    · omega
  obtain ⟨P0, hs0, hA, hC2⟩ := hC2
  have H := Lib.hid hA
  have HC2 := Lib.hid hC2
  have HLD := Lib.hid hLd
  have HCH := Lib.hid hch
  have HOK := Lib.hid hok
  have HSZ := Lib.hid hsz
  have HRO := Lib.hid hroll
  have HS0 := Lib.hid hs0
  clear hH hA hC2 hs0 hLd hch hok hsz hroll hr
  go_enter Tryz.func21, Tryz.ntmps21
  go_wp2_with fail
  refine (row_p H.out (some ⟨w.heap.size, 0, none⟩) [1, 1, 1] 3 HC2.out 0 (by decide) (by decide) 0 (by decide) (by decide)).mono ?_
  rintro e w1 ⟨v1, P1, out, rfl, hs1, hm1, hb1, hH1⟩
  rw [← HLD.out] at hm1
  have H1 := Lib.hid hH1
  have HB1 := Lib.hid hb1
  have HM1 := Lib.hid hm1
  have HS1 := Lib.hid (HS0.out.trans hs1)
  clear hH1 hb1 hm1 hs1
  go_wp2_with fail
  refine (made10_ok (C.sub HS1.out) 1 (by decide) (by decide) 0 (by decide) v1 out HB1.out L HM1.out HCH.out HOK.out HSZ.out H1.out).mono ?_
  rintro e w2 ⟨d, h, P2, A, Ad, D, Hh, rfl, hs2, hM, hD, hO, hd, hseg, hev, hro, -, -, -, -, hH2⟩
  have hl3 : Hh.L.length = 3 := by
    have := congrArg List.length hro
    rw [List.length_map, HRO.out] at this
    exact this
  have HS2 := Lib.hid (HS1.out.trans hs2)
  have H2 := Lib.hid hH2
  have HO := Lib.hid hO
  have HL3 := Lib.hid hl3
  clear hs2 hH2 hO hro hl3 hd hseg hev
  go_wp2_with fail
  refine (hsegs_ok hM HO.out.W H2.out).mono ?_
  rintro e w3 ⟨v3, At, rfl, ht, hH3⟩
  obtain ⟨ta, tc, rfl⟩ := ht.shape
  have hl : (Hh.L.map fun p => triG p.2).length = 3 := by rw [List.length_map]; exact HL3.out
  rw [hl]
  have HX : Hid (∃ P', Sub P P' ∧ Hp w3 P' F) := ⟨P2, HS2.out, hH3.drop.drop.drop⟩
  clear ht hH3 hl
  go_wp2_with fail
  go_ret
  exact ⟨rfl, HX.out⟩
end
end Go.Proofs.YtncjffkpkmjgkaaGreatDoor.Sg

/-! Hq -/
namespace Go.Proofs.YtncjffkpkmjgkaaGreatDoor.Sg
open Go.RowKit Er Go.Maps

/-! ### a batch read by itself -/
theorem rdGo_skip (o m : Int) : ∀ (l1 l2 out : List Bt) (s : Nat), (∀ x ∈ l1, x.b + x.r.length ≤ o) → rdGo o m (l1 ++ l2) out s = rdGo o m l2 out s
  | [], _, _, _, _ => rfl
  | x :: l1, l2, out, s, h => by
    have h1 := h x List.mem_cons_self
    rw [List.cons_append]
    conv => lhs; unfold rdGo
    rw [if_pos h1]
    exact rdGo_skip o m l1 l2 out s (fun y hy => h y (List.mem_cons_of_mem _ hy))
theorem chain_mem : ∀ (l : List Bt) (b e : Int), Chain b e l → (∀ x, x ∈ l → 1 ≤ x.r.length) → ∀ x, x ∈ l → b ≤ x.b ∧ x.b + x.r.length ≤ endOf b l
  | [], _, _, _, _, x, hx => by cases hx
  | y :: l, b, e, ⟨h1, h2, h3⟩, hr, x, hx => by
    have hy := hr y List.mem_cons_self
    have hg := chain_ge l _ _ h3 (fun z hz => hr z (List.mem_cons_of_mem _ hz))
    rw [endOf_cons]
    rcases List.mem_cons.1 hx with rfl | hx
    · omega
    · have := chain_mem l _ _ h3 (fun z hz => hr z (List.mem_cons_of_mem _ hz)) x hx
      omega
theorem rdGo_one (l1 l2 : List Bt) (x : Bt) (b e : Int) (hc : Chain b e (l1 ++ x :: l2)) (hr : ∀ y, y ∈ l1 ++ x :: l2 → 1 ≤ y.r.length) : rdGo x.b 0 (l1 ++ x :: l2) [] 0 = [x] := by
  obtain ⟨c1, c2⟩ := (chain_app _ _ _ _).1 hc
  have hxb : x.b = endOf b l1 := c2.1
  rw [rdGo_skip _ _ _ _ _ _ (fun y hy => by rw [hxb]; exact (chain_mem l1 _ _ c1 (fun z hz => hr z (by simp [hz])) y hy).2)]
  have hxl := hr x (by simp)
  have hp := szB_pos x
  have hf : fromL x x.b = x := by unfold fromL; rw [if_pos (Int.le_refl _)]
  unfold rdGo
  rw [if_neg (by omega), hf, if_neg (by simp), if_pos (by omega)]; rfl

section
variable {S : List Nat} {E : Nat → Addr} {B : Nat} {P : Pm} {h : Nat} {H : Hl} {D : Dk} {A Ad F : Mm} {w : World} {b0 : Int} {l : List Bt}

theorem HotOn.find (hO : HotOn D H b0 l) {x : Bt} (hx : x ∈ l) : ∃ L1 s G L2 g1 g2, H.L = L1 ++ (s, G) :: L2 ∧ G.l = g1 ++ x :: g2 := by
  rw [← hO.fl, List.mem_flatten] at hx
  obtain ⟨m, hm, hx⟩ := hx
  obtain ⟨p, hp, rfl⟩ := List.mem_map.1 hm
  obtain ⟨L1, L2, hL⟩ := List.append_of_mem hp
  obtain ⟨g1, g2, hg⟩ := List.append_of_mem hx
  exact ⟨L1, p.1, p.2, L2, g1, g2, hL, hg⟩

/-- A read of an offset that a segment has. -/
theorem hread_seg (C : Ctx S E B P) (hM : HlM h H A) (hO : HotOn D H b0 l) (hD : DkM P H.d D Ad) {L1 L2 : List (Nat × Sg)} {s : Nat} {G : Sg} (hL : H.L = L1 ++ (s, G) :: L2) (o most : Int) (ho1 : (G.base : Int) ≤ o) (ho2 : o < G.end_)
    (hm1 : -9223372036854775808 ≤ most) (hm2 : most ≤ 9223372036854775807) (hH : Hp w P (A ++ (Ad ++ F))) :
    Calls Tryz.prog 85 #[ptr h, .int .i64 o, .int .i64 most] w fun e w' =>
      ∃ v out P', e = .returned (.tuple #[v, .nilIface]) ∧ Sub P P' ∧ out.map (·.1) = rdGo o most G.l [] 0 ∧ BtsP P' v out ∧ Hp w' P' (A ++ (Ad ++ F)) := by
  obtain ⟨k1, k2, -, -⟩ := hO.sg (s, G) (by rw [hL]; simp)
  exact hread_at C hM hO.W hD hL k1 k2 o most ho1 ho2 (fun p hp => Int.le_trans (hO.before hL hp).1 ho1) hm1 hm2 hH

/-- A batch of the log, by itself. -/
theorem hread_one (C : Ctx S E B P) (hM : HlM h H A) (hO : HotOn D H b0 l) (hD : DkM P H.d D Ad) (x : Bt) (hx : x ∈ l) (hH : Hp w P (A ++ (Ad ++ F))) :
    Calls Tryz.prog 85 #[ptr h, .int .i64 x.b, .int .i64 0] w fun e w' =>
      ∃ v p P', e = .returned (.tuple #[v, .nilIface]) ∧ Sub P P' ∧ p.1 = x ∧ BtsP P' v [p] ∧ Hp w' P' (A ++ (Ad ++ F)) := by
  obtain ⟨L1, s, G, L2, g1, g2, hL, hg⟩ := hO.find hx
  have hch := hO.chain hL
  have hgm : (s, G) ∈ H.L := by rw [hL]; simp
  have hr : ∀ y, y ∈ G.l → 1 ≤ y.r.length := fun y hy => ((hO.sg _ hgm).1.ok y hy).n1
  have hxm := chain_mem _ _ _ hch hr x (by rw [hg]; simp)
  have hx1 := hr x (by rw [hg]; simp)
  refine (hread_seg C hM hO hD hL x.b 0 hxm.1 (by rw [end_eq]; omega) (by omega) (by omega) hH).mono ?_
  rintro e w' ⟨v, out, P', rfl, hs, hm, hb, hH'⟩
  rw [hg] at hm hch hr
  rw [rdGo_one g1 g2 x _ _ hch hr] at hm
  obtain ⟨p, rfl⟩ : ∃ p, out = [p] := by
    have hl : out.length = 1 := by have := congrArg List.length hm; simpa using this
    exact List.length_eq_one_iff.1 hl
  exact ⟨v, p, P', rfl, hs, by simpa using hm, hb, hH'⟩
end
end Go.Proofs.YtncjffkpkmjgkaaGreatDoor.Sg
