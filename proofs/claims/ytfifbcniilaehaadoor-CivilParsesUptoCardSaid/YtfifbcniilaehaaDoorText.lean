/- Contracts of the texts of days, the program's and the reference's. -/
import Derived.Test.YtfifbcniilaehaaDoorCivF
import Derived.Test.YtfifbcniilaehaaDoorDig
import Derived.Test.YtfifbcniilaehaaDoorCodA
import Derived.Test.YtfifbcniilaehaaDoorShelf
import Derived.Lib.LaidTab
import Derived.Lib.ItoaMem
namespace Go.Proofs.YtfifbcniilaehaaDoor
open Go.RowKit

/-- The table that strconv.Itoa reads. -/
def Tab (w : World) : Prop := Lib.TabIs Tryd.prog w "internal/strconv.uint64pow10" .u64 Lib.pow10Tab
theorem Tab.below {w w' : World} (h : Tab w) (hb : Below w.heap.size w w') : Tab w' := by
  unfold Tab Lib.TabIs World.var? at h ⊢
  cases hg : Tryd.prog.globalNamed "internal/strconv.uint64pow10" with
  | none => rw [hg] at h; cases h
  | some g =>
    rw [hg] at h
    simp only [Option.bind_some] at h ⊢
    rcases Nat.lt_or_ge g w.heap.size with hl | hl
    · rw [hb.block g hl]; exact h
    · rw [Array.getElem?_eq_none hl] at h; cases h
theorem below_row (w : World) (k : Nat) (os : Array Obj) : Below w.heap.size w (Sort.grow (w.drewN k) os) := by
  refine ⟨rfl, rfl, rfl, ?_, fun i hi => ?_⟩
  · show w.heap.size ≤ (w.heap ++ os).size
    simp
  · show (w.heap ++ os)[i]? = w.heap[i]?
    rw [Array.getElem?_append_left hi]
theorem itoa_d (n : Nat) (hn : n < 10000) (D : List UInt8) (hD : D = Lib.decDigits n) (w : World) (ht : Tab w) :
    Calls Tryd.prog 30 #[.int .i64 (n : Int)] w fun e w' => e = .returned (.string ⟨D.toArray⟩) ∧ Below w.heap.size w w' := by
  refine (Tryd.strconv_Itoa (n : Int) (by omega) (by omega) w ht).mono ?_
  rintro e w' ⟨rfl, k, os, rfl⟩
  exact ⟨by rw [Lib.itoa_nonneg, hD], below_row w k os⟩
theorem rep_any (c : Int) (h0 : 0 ≤ c) (h4 : c ≤ 4) (R : List UInt8) (hR : R = List.replicate c.toNat 48) (w : World) :
    Calls Tryd.prog 31 #[.string ⟨#[48]⟩, .int .i64 c] w fun e w' => e = .returned (.string ⟨R.toArray⟩) ∧ Below w.heap.size w w' := by
  obtain ⟨k, rfl⟩ := Int.eq_ofNat_of_zero_le h0
  refine (Tryd.strings_Repeat ⟨#[48]⟩ k w (by omega) (by show 1 * k ≤ _; omega)).mono ?_
  rintro e w' ⟨rfl, hb⟩
  refine ⟨?_, hb⟩
  rw [hR, Int.toNat_natCast, ← Dig.repeat48]
theorem ret_str {l m : List UInt8} (h : l = m) : Ending.returned (.string ⟨l.toArray⟩) = .returned (.string ⟨m.toArray⟩) := by rw [h]
set_option maxRecDepth 100000 in
theorem padded_any (n k : Nat) (hk : 0 < k) (hk4 : k ≤ 4) (hn : n < 10 ^ k) (w : World) (ht : Tab w) (T : List UInt8) (hT : T = Dig.digW k n) :
    Calls Tryd.prog 20 #[.int .i64 (n : Int), .int .i64 (k : Int)] w fun e w' => e = .returned (.string ⟨T.toArray⟩) ∧ Below w.heap.size w w' := by
  obtain ⟨h1, h2⟩ := Dig.pad k n hk hn
  have hn9 : n < 10000 := Nat.lt_of_lt_of_le hn (Nat.pow_le_pow_right (by omega) hk4)
  obtain ⟨D, hD⟩ : ∃ D, D = Lib.decDigits n := ⟨_, rfl⟩
  obtain ⟨R, hR⟩ : ∃ R : List UInt8, R = List.replicate (k - D.length) 48 := ⟨_, rfl⟩
  rw [← hD] at h1 h2
  rw [← hR] at h2
  rw [← hT] at h2
  have hRl : R.length ≤ 4 := by rw [hR]; simp; omega
  have HD := Lib.hid hD
  have HR := Lib.hid hR
  have H2 := Lib.hid h2
  clear hD hR h2 hT hn
  go_enter Tryd.func20, Tryd.ntmps20
  go_wp2_with fail
  refine (itoa_d n hn9 D HD.out _ ht).mono ?_
  rintro e w1 ⟨rfl, hb1⟩
  go_wp2_with fail
  refine (rep_any _ (by omega) (by omega) R (by rw [HR.out]; congr 1; omega) _).mono ?_
  rintro e w2 ⟨rfl, hb2⟩
  go_wp2_with fail
  go_ret
  exact ⟨by first | (rw [← H2.out]; rfl) | (rw [← H2.out]; simp), hb1.trans (hb2.mono hb1.size)⟩

/-- A digit's cell. -/
theorem bv_digs4 (n : Nat) : bv (Dig.digW 4 n) = [.int .u8 (48 + ((n / 10 / 10 / 10 : Nat) : Int) % 10), .int .u8 (48 + ((n / 10 / 10 : Nat) : Int) % 10), .int .u8 (48 + ((n / 10 : Nat) : Int) % 10), .int .u8 (48 + (n : Int) % 10)] := by
  have e : ∀ m : Nat, ((Dig.dg m).toNat : Int) = 48 + (m : Int) % 10 := fun m => by rw [Dig.dg_nat]; omega
  simp only [Dig.digW, bv, List.nil_append, List.cons_append, List.map_cons, List.map_nil, e]
theorem bv_digs2 (n : Nat) : bv (Dig.digW 2 n) = [.int .u8 (48 + ((n / 10 : Nat) : Int) % 10), .int .u8 (48 + (n : Int) % 10)] := by
  have e : ∀ m : Nat, ((Dig.dg m).toNat : Int) = 48 + (m : Int) % 10 := fun m => by rw [Dig.dg_nat]; omega
  simp only [Dig.digW, bv, List.nil_append, List.cons_append, List.map_cons, List.map_nil, e]
theorem gives_lit {w w' : World} {l : List UInt8} {cs : Array Value} {n : Nat} (hn : n = l.length) (hcs : bv l = cs.toList) (hm : n ≤ maxLen) (hw : w' = w.alloc (.cells cs 5)) :
    GivesB w l (.returned (.slice (some ⟨w.heap.size, 0, none⟩) n n)) w' := by
  subst hw hn
  refine ⟨_, _, rfl, ?_, (Below.refl _ _).alloc (Nat.le_refl _) _⟩
  unfold Own
  rw [hcs]
  exact World.ownsRow_lit (e := 5) (size := 1) w cs l.length (Nat.le_refl _) hm (by have := congrArg List.length hcs; simpa [bv] using this.symm)
set_option maxHeartbeats 400000 in
theorem digits4 (n : Nat) (hn : n < 10000) (w : World) :
    Calls Tryd.prog 21 #[.int .i64 (n : Int), .int .i64 4] w (GivesB w (Dig.digW 4 n)) := by
  have hmk : ∀ w : World, (Instr.makeSlice 39 (.int .i64 4) (.int .i64 4)).run Tryd.prog w = .ok (.slice (some ⟨w.heap.size, 0, none⟩) 4 4) (w.alloc (.cells #[.int .u8 0, .int .u8 0, .int .u8 0, .int .u8 0] 5)) := fun _ => by kernel_rfl
  go_enter Tryd.func21, Tryd.ntmps21
  go_wp2
  go_loopw [0, 6] (fun v i wr =>
    (v = .int .i64 (n : Int) ∧ i = .int .i64 3 ∧ wr = w.alloc (.cells #[.int .u8 0, .int .u8 0, .int .u8 0, .int .u8 0] 5)) ∨
    (v = .int .i64 ((n / 10 : Nat) : Int) ∧ i = .int .i64 2 ∧ wr = w.alloc (.cells #[.int .u8 0, .int .u8 0, .int .u8 0, .int .u8 (48 + (n : Int) % 10)] 5)) ∨
    (v = .int .i64 ((n / 10 / 10 : Nat) : Int) ∧ i = .int .i64 1 ∧ wr = w.alloc (.cells #[.int .u8 0, .int .u8 0, .int .u8 (48 + ((n / 10 : Nat) : Int) % 10), .int .u8 (48 + (n : Int) % 10)] 5)) ∨
    (v = .int .i64 ((n / 10 / 10 / 10 : Nat) : Int) ∧ i = .int .i64 0 ∧ wr = w.alloc (.cells #[.int .u8 0, .int .u8 (48 + ((n / 10 / 10 : Nat) : Int) % 10), .int .u8 (48 + ((n / 10 : Nat) : Int) % 10), .int .u8 (48 + (n : Int) % 10)] 5)) ∨
    (i = .int .i64 (-1) ∧ wr = w.alloc (.cells #[.int .u8 (48 + ((n / 10 / 10 / 10 : Nat) : Int) % 10), .int .u8 (48 + ((n / 10 / 10 : Nat) : Int) % 10), .int .u8 (48 + ((n / 10 : Nat) : Int) % 10), .int .u8 (48 + (n : Int) % 10)] 5)))
    (fun _ i _ => (intOf i + 1).toNat)
  case atStart => exact .inl ⟨rfl, rfl, rfl⟩
  case round =>
    rcases hrel with ⟨rfl, rfl, rfl⟩ | ⟨rfl, rfl, rfl⟩ | ⟨rfl, rfl, rfl⟩ | ⟨rfl, rfl, rfl⟩ | ⟨rfl, rfl⟩
    · go_wp2
      go_roundw
      case rel => exact .inr (.inl ⟨by go_num, rfl, by first | trivial | rfl⟩)
      case measure => simp [intOf]
    · obtain ⟨m, hm⟩ : ∃ m, m = n / 10 := ⟨_, rfl⟩
      rw [← hm]
      have hm9 : m < 1000 := by omega
      clear hm
      go_wp2
      go_roundw
      case rel => exact .inr (.inr (.inl ⟨by go_num, rfl, by first | trivial | rfl⟩))
      case measure => simp [intOf]
    · obtain ⟨m, hm⟩ : ∃ m, m = n / 10 / 10 := ⟨_, rfl⟩
      rw [← hm]
      have hm9 : m < 100 := by omega
      clear hm
      go_wp2
      go_roundw
      case rel => exact .inr (.inr (.inr (.inl ⟨by go_num, rfl, by first | trivial | rfl⟩)))
      case measure => simp [intOf]
    · obtain ⟨m, hm⟩ : ∃ m, m = n / 10 / 10 / 10 := ⟨_, rfl⟩
      rw [← hm]
      have hm9 : m < 10 := by omega
      clear hm
      go_wp2
      go_roundw
      case rel => exact .inr (.inr (.inr (.inr ⟨rfl, by first | trivial | rfl⟩)))
      case measure => simp [intOf]
    · go_wp2
      go_ret
      exact gives_lit (by rw [Dig.digW_length]) (bv_digs4 n) (by unfold maxLen; omega) rfl
set_option maxHeartbeats 400000 in
theorem digits2 (n : Nat) (hn : n < 100) (w : World) :
    Calls Tryd.prog 21 #[.int .i64 (n : Int), .int .i64 2] w (GivesB w (Dig.digW 2 n)) := by
  have hmk : ∀ w : World, (Instr.makeSlice 39 (.int .i64 2) (.int .i64 2)).run Tryd.prog w = .ok (.slice (some ⟨w.heap.size, 0, none⟩) 2 2) (w.alloc (.cells #[.int .u8 0, .int .u8 0] 5)) := fun _ => by kernel_rfl
  go_enter Tryd.func21, Tryd.ntmps21
  go_wp2
  go_loopw [0, 6] (fun v i wr =>
    (v = .int .i64 (n : Int) ∧ i = .int .i64 1 ∧ wr = w.alloc (.cells #[.int .u8 0, .int .u8 0] 5)) ∨
    (v = .int .i64 ((n / 10 : Nat) : Int) ∧ i = .int .i64 0 ∧ wr = w.alloc (.cells #[.int .u8 0, .int .u8 (48 + (n : Int) % 10)] 5)) ∨
    (i = .int .i64 (-1) ∧ wr = w.alloc (.cells #[.int .u8 (48 + ((n / 10 : Nat) : Int) % 10), .int .u8 (48 + (n : Int) % 10)] 5)))
    (fun _ i _ => (intOf i + 1).toNat)
  case atStart => exact .inl ⟨rfl, rfl, rfl⟩
  case round =>
    rcases hrel with ⟨rfl, rfl, rfl⟩ | ⟨rfl, rfl, rfl⟩ | ⟨rfl, rfl⟩
    · go_wp2
      go_roundw
      case rel => exact .inr (.inl ⟨by go_num, rfl, by first | trivial | rfl⟩)
      case measure => simp [intOf]
    · obtain ⟨m, hm⟩ : ∃ m, m = n / 10 := ⟨_, rfl⟩
      rw [← hm]
      have hm9 : m < 10 := by omega
      clear hm
      go_wp2
      go_roundw
      case rel => exact .inr (.inr ⟨rfl, by first | trivial | rfl⟩)
      case measure => simp [intOf]
    · go_wp2
      go_ret
      exact gives_lit (by rw [Dig.digW_length]) (bv_digs2 n) (by unfold maxLen; omega) rfl
end Go.Proofs.YtfifbcniilaehaaDoor
