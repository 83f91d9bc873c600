/- Contracts of Number, both. -/
import Derived.Test.YtnlmiicbdhomaaaDoorCodA
import Derived.Test.YtnlmiicbdhomaaaDoorCod
namespace Go.Proofs.YtnlmiicbdhomaaaDoor
open Go.RowKit

theorem u8_or_128 {x : Int} (h0 : 0 ≤ x) (h1 : x < 128) : bits .or .u8 x 128 = x + 128 := by
  obtain ⟨n, rfl⟩ := Int.eq_ofNat_of_zero_le h0
  have := u8_or_nat n 128 (by omega) (by omega)
  rw [show ((128 : Nat) : Int) = 128 from rfl] at this
  rw [this, Nat.or_comm, nat_join 7 128 n (by decide) (by omega)]
  omega


set_option maxHeartbeats 1000000 in
theorem number_any (n : Nat) (hn : n < 18446744073709551616) (w : World) :
    Calls Tryd.prog 15 #[.int .u64 (n : Int)] w (GivesB w (Cod.number n)) := by
  have hb := byte_of (x := (n : Int) % 128) (by omega) (by omega)
  have HB := Lib.hid hb; clear hb
  go_enter Tryd.func15, Tryd.ntmps15
  go_wp2
  go_loopw [0, 3] (fun m v wr => ∃ (k : Nat) (A : Option Addr) (c : Nat) (L : List UInt8), k < 18446744073709551616 ∧ m = .int .u64 (k : Int) ∧ v = .slice A L.length c ∧ Own wr w.heap.size 5 A c L ∧ Below w.heap.size w wr ∧ Hid (Cod.number n = Cod.hi k ++ L.reverse)) (fun m _ _ => (intOf m).toNat)
  case atStart =>
    refine ⟨n / 128, some ⟨w.heap.size, 0, none⟩, 1, [UInt8.ofNat ((n : Int) % 128).toNat], by omega, by go_num, rfl, own_one HB.out, (Below.refl _ _).alloc (Nat.le_refl _) _, Lib.hid ?_⟩
    have : ((n : Int) % 128).toNat = n % 128 := by omega
    rw [this]; rfl
  case round =>
    obtain ⟨k, A, c, L, hk, rfl, rfl, ho, hbl, HE⟩ := hrel
    have hlen : L.length ≤ 10 := by
      have h := Cod.number_len hn
      rw [HE.out, List.length_append, List.length_reverse] at h
      omega
    by_cases h0 : k = 0
    · subst h0
      have hE : Cod.number n = L.reverse := by rw [HE.out, Cod.hi_zero]; rfl
      have H2 := Lib.hid hE; clear hE
      go_wp2_with fail
      refine (reverse_any _ _ _ _ _ ho (by omega)).mono ?_
      rintro e w1 ⟨rfl, ho1, hg1⟩
      have hbl1 := below_grow hbl hg1 (fun g hg => (ho.blk_ge g hg).1) hbl.size
      go_wp2_with fail
      go_ret
      refine ⟨A, c, ?_, ?_, hbl1⟩
      · exact ret_slice (by rw [H2.out, List.length_reverse])
      · rw [H2.out]; exact ho1
    · have hor := u8_or_128 (x := (k : Int) % 128) (by omega) (by omega)
      have hb := byte_of (x := (k : Int) % 128 + 128) (by omega) (by omega)
      have HB2 := Lib.hid hb; clear hb
      have hk0 : 0 < (k : Int) := by omega
      go_wp2_with (at_builtin; refine wpList_append_b _ rfl _ _ bt rfl w.heap.size A c L rfl (ho.alloc _) _ (some ⟨wr.heap.size, 0, none⟩) 1 1 [UInt8.ofNat ((k : Int) % 128 + 128).toNat] rfl rfl (rdB_one (by simp) HB2.out (by simp)) (by simp; omega) (by have := hbl.size; simp; omega) ?_; intro A' c' L' w1 hL ho1 hg1 _; have HL := Lib.hid hL; clear hL)
      have hbl1 : Below w.heap.size w w1 := below_grow (hbl.alloc hbl.size _) hg1 (fun g hg => (ho.blk_ge g hg).1) (by have := hbl.size; simp; omega)
      go_roundw
      case rel =>
        refine ⟨k / 128, A', c', L', by omega, by go_num, rfl, ho1, hbl1, Lib.hid ?_⟩
        have e1 : ((k : Int) % 128 + 128).toNat = k % 128 + 128 := by omega
        rw [HE.out, HL.out, Cod.hi_pos h0, e1]
        simp
      case measure => simp [intOf]; omega

end Go.Proofs.YtnlmiicbdhomaaaDoor
