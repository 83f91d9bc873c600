/- Parts of the proof, one behind the other: Slices of bytes in a row; the contract of slices.Concat at bytes. -/
import Derived.Test.YtekbdedpombgcaaGreatDoorMrg02
import Derived.Test.YtekbdedpombgcaaGreatDoorMrg23
namespace Go.Proofs.YtekbdedpombgcaaGreatDoor
open Go.RowKit

/-- Bytes as they lie in memory. -/
structure Bs where
  A : Option Addr
  c : Nat
  l : List UInt8
def Bs.cells (b : Bs) : List Value := [.slice b.A b.l.length b.c]
structure RdBs (w : World) (B : Nat) (A : Option Addr) (l : List Bs) : Prop where
  row : RdS Bs.cells 1 w B A l
  ok : ∀ b ∈ l, RdB w B b.A b.l
theorem RdBs.below {w w' : World} {B D : Nat} {A : Option Addr} {l : List Bs} (h : RdBs w B A l) (hb : Below D w w') (hD : B ≤ D) : RdBs w' B A l := ⟨h.row.below hb hD, fun p hp => (h.ok p hp).below hb hD⟩
theorem RdBs.more {w : World} {B B' : Nat} {A : Option Addr} {l : List Bs} (h : RdBs w B A l) (hB : B ≤ B') : RdBs w B' A l := ⟨h.row.more hB, fun p hp => (h.ok p hp).more hB⟩
theorem RdBs.row1 {w : World} {B : Nat} {A : Option Addr} {l : List Bs} (h : RdBs w B A l) (hl : 0 < l.length) : ∃ b off, A = some ⟨b, off, none⟩ ∧ b < B ∧ ∀ k (hk : k < l.length), w.cell? ⟨b, off + k, none⟩ = some (.slice l[k].A l[k].l.length l[k].c) := by
  obtain ⟨b, off, hA, hb, hc⟩ := RdS.row (f := Bs.cells) (n := 1) (fun _ => rfl) (by omega) h.row hl
  exact ⟨b, off, hA, hb, fun k hk => by have := hc k hk 0 _ rfl; simpa using this⟩
def cat (l : List Bs) : List UInt8 := l.flatMap Bs.l
theorem cat_succ (l : List Bs) (k : Nat) (h : k < l.length) : cat (l.take (k + 1)) = cat (l.take k) ++ l[k].l := by
  unfold cat; rw [List.take_succ_eq_append_getElem h, List.flatMap_append]; simp
theorem cat_take_le (l : List Bs) (k : Nat) : (cat (l.take k)).length ≤ (cat l).length := by
  conv => rhs; rw [← List.take_append_drop k l]
  unfold cat; rw [List.flatMap_append, List.length_append]; omega
theorem grow_nil (n : Nat) (hn : n ≤ 70368744177664) (w : World) : Calls Tryz.prog 181 #[.slice none 0 0, .int .i64 (n : Int)] w fun e w' => ∃ A c, e = .returned (.slice A 0 c) ∧ Own w' w.heap.size 5 A c [] ∧ Below w.heap.size w w' := by
  rcases Nat.eq_zero_or_pos n with h0 | hp
  · subst h0
    refine (Any8.slices_Grow_room Tryz.growB none 0 0 0 w (Nat.le_refl _) (by omega) (by omega) (Nat.le_refl _)).mono ?_
    rintro e w' ⟨rfl, rfl⟩
    exact ⟨none, 0, rfl, Own.nil _ _ _, Below.refl _ _⟩
  · obtain ⟨i0, hi, hz0, hz1, hz2⟩ := info_parts bt.info
    refine (Any8.slices_Grow_grow Tryz.growB i0 _ hi hz0 (by omega) none 0 0 n [] w (Nat.le_refl _) (by omega) (by rw [hz2]; omega) (by omega) (by simp) (fun _ => rfl) (fun a h => by cases h)).mono ?_
    rintro e w' ⟨rfl, rfl⟩
    refine ⟨_, _, rfl, ?_, ((Below.refl _ _).drew).alloc (Nat.le_refl _) _⟩
    have hge := grownCap_ge w n 0 5
    have hle := grownCap_le_maxLen w n 0 5 (by unfold maxLen; omega)
    simp only [Nat.zero_add]
    exact World.ownsRow_made (e := 5) (size := 1) w.drew _ (grownCap w n 0 5) (Nat.le_refl _) hle (by
      simp [Builtin.zeroCells, Value.cells]
      show n + (grownCap w n 0 5 - n) = _
      omega)
set_option maxHeartbeats 1000000 in
set_option maxRecDepth 100000 in
theorem concat_any (A : Option Addr) (c : Nat) (l : List Bs) (w : World) (h : RdBs w w.heap.size A l) (hl : l.length ≤ 1000000) (hs : (cat l).length ≤ 70368744177664) :
    Calls Tryz.prog 113 #[.slice A l.length c] w (GivesB w (cat l)) := by
  have HR := Lib.hid h
  have HLE := Lib.hid (cat_take_le l)
  clear h
  go_enter Tryz.func113, Tryz.ntmps113
  go_wp2_with fail
  go_loop [3, 11] (fun s i => ∃ k : Nat, k ≤ l.length ∧ i = .int .i64 (k : Int) ∧ s = .int .i64 ((cat (l.take k)).length : Int)) (fun _ i => l.length - (intOf i).toNat)
  case atStart => exact ⟨0, by omega, rfl, rfl⟩
  case round =>
    obtain ⟨k, hk, rfl, rfl⟩ := hrel
    by_cases hlt : k < l.length
    · obtain ⟨b, off, rfl, _, hc⟩ := HR.out.row1 (by omega)
      have hc1 := hc k hlt
      have hcs : (cat (l.take (k + 1))).length = (cat (l.take k)).length + l[k].l.length := by rw [cat_succ l k hlt, List.length_append]
      have hc2 := HLE.out (k + 1)
      obtain ⟨p, hp⟩ : ∃ p, p = l[k] := ⟨_, rfl⟩
      rw [← hp] at hc1 hcs
      clear hp hc
      obtain ⟨X, hX⟩ : ∃ X, X = (cat (l.take k)).length := ⟨_, rfl⟩
      obtain ⟨Y, hY⟩ : ∃ Y, Y = (cat (l.take (k + 1))).length := ⟨_, rfl⟩
      rw [← hX] at hcs ⊢
      rw [← hY] at hcs hc2
      have hxy : X + p.l.length ≤ 70368744177664 := by omega
      have HY := Lib.hid hY; have HCS := Lib.hid hcs
      clear hX hY hcs hc2
      go_wp2_with fail
      go_round
      case rel => exact ⟨k + 1, by omega, by go_num, by rw [← HY.out, HCS.out]; simp⟩
      case measure => simp [intOf]; omega
    · have hk2 : k = l.length := by omega
      subst hk2
      rw [List.take_of_length_le (Nat.le_refl _)]
      have KG := Lib.hid (grow_nil (cat l).length hs w)
      go_wp2_with fail
      refine KG.out.mono ?_
      rintro e w1 ⟨A1, c1, rfl, ho, hb⟩
      have HO := Lib.hid ho; have HB := Lib.hid hb
      clear ho hb
      go_wp2_with fail
      go_loopw [6, 27] (fun v i wr => ∃ (k : Nat) (A3 : Option Addr) (c3 : Nat) (L : List UInt8), k ≤ l.length ∧ i = .int .i64 (k : Int) ∧ v = .slice A3 L.length c3 ∧ Hid (L = cat (l.take k)) ∧ Hid (Own wr w.heap.size 5 A3 c3 L) ∧ Hid (Below w.heap.size w wr)) (fun _ i _ => l.length - (intOf i).toNat)
      case atStart => exact ⟨0, A1, c1, [], by omega, rfl, rfl, Lib.hid rfl, HO, HB⟩
      case round =>
        obtain ⟨k, A3, c3, L, hk, rfl, rfl, HL, HO3, HB3⟩ := hrel
        by_cases hlt : k < l.length
        · obtain ⟨b, off, rfl, _, hc⟩ := (HR.out.below HB3.out (Nat.le_refl _)).row1 (by omega)
          have hc1 := hc k hlt
          have HRB : Hid (RdB wr w.heap.size l[k].A l[k].l) := Lib.hid ((HR.out.below HB3.out (Nat.le_refl _)).ok _ (List.getElem_mem hlt))
          have HCS := Lib.hid (cat_succ l k hlt)
          have hc2 := HLE.out (k + 1)
          rw [HCS.out, List.length_append, ← HL.out] at hc2
          obtain ⟨p, hp⟩ : ∃ p, p = l[k] := ⟨_, rfl⟩
          rw [← hp] at hc1 HCS HRB hc2
          clear hp hc
          have hzr : w.heap.size ≤ wr.heap.size := HB3.out.size
          go_wp2_with (at_builtin; refine wpList_append_b _ rfl _ _ bt rfl w.heap.size A3 c3 L rfl HO3.out _ p.A p.l.length p.c p.l rfl rfl HRB.out (by omega) hzr ?_)
          intro A5 c5 L5 w5 hL5 ho5 hg5 _
          have HL5 : Hid (L5 = cat (l.take (k + 1))) := Lib.hid (by rw [hL5, HL.out, HCS.out])
          have HO5 := Lib.hid ho5
          have HB5 : Hid (Below w.heap.size w w5) := Lib.hid (below_grow HB3.out hg5 (fun g hg => (HO3.out.blk_ge g hg).1) hzr)
          clear hL5 ho5 hg5
          go_wp2_with fail
          go_round
          case rel => exact ⟨k + 1, A5, c5, L5, by omega, by go_num, rfl, HL5, HO5, HB5⟩
          case measure => simp [intOf]; omega
        · have hk3 : k = l.length := by omega
          subst hk3
          have HE : Hid (L = cat l) := Lib.hid (by rw [HL.out, List.take_of_length_le (Nat.le_refl _)])
          obtain ⟨n, hn⟩ : ∃ n, n = L.length := ⟨_, rfl⟩
          rw [← hn]
          have HN := Lib.hid hn; clear hn
          go_wp2_with fail
          go_ret
          refine ⟨A3, c3, ?_, ?_, HB3.out⟩
          · rw [HN.out, HE.out]; rfl
          · rw [← HE.out]; exact HO3.out
end Go.Proofs.YtekbdedpombgcaaGreatDoor
