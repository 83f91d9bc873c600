/- The contract of the reference's Less. -/
import Derived.Test.YtnlmiicbdhomaaaDoorOrd
import Derived.Test.YtnlmiicbdhomaaaDoorKeyC
namespace Go.Proofs.YtnlmiicbdhomaaaDoor
open Go.RowKit

theorem less_at (a b : List Pt) (k : Nat) (h1 : k < a.length) (h2 : k < b.length) : Cod.less (a.drop k) (b.drop k) = if Cod.ptSame a[k] b[k] then Cod.less (a.drop (k + 1)) (b.drop (k + 1)) else Cod.ptLess a[k] b[k] := by
  rw [List.drop_eq_getElem_cons h1, List.drop_eq_getElem_cons h2]; rfl
theorem less_end (a b : List Pt) (k : Nat) (h0 : k ≤ a.length) (h1 : k ≤ b.length) (h : ¬ (k < a.length ∧ k < b.length)) : Cod.less (a.drop k) (b.drop k) = decide (a.length < b.length) := by
  by_cases ha : k < a.length
  · have : k = b.length := by omega
    subst this
    rw [List.drop_length, List.drop_eq_getElem_cons ha]
    rw [decide_eq_false (by omega)]; rfl
  · have : k = a.length := by omega
    subst this
    rw [List.drop_length]
    by_cases hb : a.length < b.length
    · rw [List.drop_eq_getElem_cons hb, decide_eq_true hb]; rfl
    · have : b.length = a.length := by omega
      rw [← this, List.drop_length, decide_eq_false (by omega)]; rfl

theorem str_same (x y : ByteArray) : (x.data.toList == y.data.toList) = (x.toList == y.toList) := by rw [ByteArray.toList_eq, ByteArray.toList_eq]

set_option maxHeartbeats 1000000 in
set_option maxRecDepth 100000 in
theorem less_any (A : Option Addr) (c : Nat) (l : List Pt) (B : Option Addr) (d : Nat) (m : List Pt) (w : World) (h : RdP w w.heap.size A l) (hll : l.length ≤ 9223372036854775807) (h' : RdP w w.heap.size B m) (hmm : m.length ≤ 9223372036854775807) :
    Calls Tryd.prog 13 #[.slice A l.length c, .slice B m.length d] w fun e w' => e = .returned (.bool (Cod.less l m)) ∧ Below w.heap.size w w' := by
  go_enter Tryd.func13, Tryd.ntmps13
  go_wp2
  go_loopw [5] (fun i wr => ∃ k : Nat, k ≤ l.length ∧ k ≤ m.length ∧ i = .int .i64 (k : Int) ∧ Hid (Cod.less l m = Cod.less (l.drop k) (m.drop k)) ∧ Below w.heap.size w wr) (fun i _ => l.length - (intOf i).toNat)
  case atStart => exact ⟨0, by omega, by omega, rfl, Lib.hid rfl, Below.refl _ _⟩
  case round =>
    obtain ⟨k, hk1, hk2, rfl, HL, hb⟩ := hrel
    by_cases h1 : k < l.length
    · by_cases h2 : k < m.length
      · obtain ⟨b, off, rfl, hbb, q0, q1, q2⟩ := (h.below hb (Nat.le_refl _)).at_ h1
        obtain ⟨b', off', rfl, hbb', r0, r1, r2⟩ := (h'.below hb (Nat.le_refl _)).at_ h2
        have e := HL.out
        rw [less_at l m k h1 h2] at e
        have hbs := hb.size
        obtain ⟨p, hp⟩ : ∃ p, p = l[k] := ⟨_, rfl⟩
        obtain ⟨q, hq⟩ : ∃ q, q = m[k] := ⟨_, rfl⟩
        rw [← hp] at q0 q1 q2 e
        rw [← hq] at r0 r1 r2 e
        clear hp hq
        obtain ⟨t, n, s⟩ := p
        obtain ⟨t', n', s'⟩ := q
        simp only at q0 q1 q2 r0 r1 r2
        have hlt' : b' < wr.heap.size := by omega
        have r0' := (World.cell?_alloc_lt wr (.cells #[.bool t, .int .u64 (n : Int), .string s] 41) ⟨b', off' + k * 3, none⟩ hlt').trans r0
        have r1' := (World.cell?_alloc_lt wr (.cells #[.bool t, .int .u64 (n : Int), .string s] 41) ⟨b', off' + k * 3 + 1, none⟩ hlt').trans r1
        have r2' := (World.cell?_alloc_lt wr (.cells #[.bool t, .int .u64 (n : Int), .string s] 41) ⟨b', off' + k * 3 + 2, none⟩ hlt').trans r2
        clear r0 r1 r2
        cases t with
        | true =>
          cases t' with
          | true =>
            cases hs : (s.toList == s'.toList) with
            | true =>
              have e2 : Cod.ptSame ⟨true, n, s⟩ ⟨true, n', s'⟩ = true := by unfold Cod.ptSame; simp only; rw [str_same, hs]; rfl
              rw [e2, if_pos rfl] at e
              have HE := Lib.hid e; clear e e2
              go_wp2
              go_roundw
              case rel => exact ⟨k + 1, by omega, by omega, by go_num, HE, by first | exact (hb.alloc hbs _).alloc (by simp; omega) _ | exact hb⟩
              case measure => simp [intOf]; omega
            | false =>
              have e2 : Cod.ptSame ⟨true, n, s⟩ ⟨true, n', s'⟩ = false := by unfold Cod.ptSame; simp only; rw [str_same, hs]; rfl
              have e3 : Cod.ptLess ⟨true, n, s⟩ ⟨true, n', s'⟩ = Go.Op.bytesLess s.toList s'.toList := by unfold Cod.ptLess; rw [ByteArray.toList_eq, ByteArray.toList_eq]; rfl
              rw [e2, e3, if_neg (by decide)] at e
              have HE := Lib.hid e; clear e e2 e3
              go_wp2
              go_ret
              exact ⟨ret_b HE.out.symm, by first | exact (hb.alloc hbs _).alloc (by simp; omega) _ | exact hb⟩
          | false =>
            have e2 : Cod.ptSame ⟨true, n, s⟩ ⟨false, n', s'⟩ = false := rfl
            have e3 : Cod.ptLess ⟨true, n, s⟩ ⟨false, n', s'⟩ = false := rfl
            rw [e2, e3, if_neg (by decide)] at e
            have HE := Lib.hid e; clear e e2 e3
            go_wp2
            go_ret
            exact ⟨ret_b HE.out.symm, by first | exact (hb.alloc hbs _).alloc (by simp; omega) _ | exact hb⟩
        | false =>
          cases t' with
          | true =>
            have e2 : Cod.ptSame ⟨false, n, s⟩ ⟨true, n', s'⟩ = false := rfl
            have e3 : Cod.ptLess ⟨false, n, s⟩ ⟨true, n', s'⟩ = true := rfl
            rw [e2, e3, if_neg (by decide)] at e
            have HE := Lib.hid e; clear e e2 e3
            go_wp2
            go_ret
            exact ⟨ret_b HE.out.symm, by first | exact (hb.alloc hbs _).alloc (by simp; omega) _ | exact hb⟩
          | false =>
            by_cases hn : n = n'
            · subst hn
              have e2 : Cod.ptSame ⟨false, n, s⟩ ⟨false, n, s'⟩ = true := by unfold Cod.ptSame; simp
              rw [e2, if_pos rfl] at e
              have HE := Lib.hid e; clear e e2
              go_wp2
              go_roundw
              case rel => exact ⟨k + 1, by omega, by omega, by go_num, HE, by first | exact (hb.alloc hbs _).alloc (by simp; omega) _ | exact hb⟩
              case measure => simp [intOf]; omega
            · have e2 : Cod.ptSame ⟨false, n, s⟩ ⟨false, n', s'⟩ = false := by unfold Cod.ptSame; simp [hn]
              have e3 : Cod.ptLess ⟨false, n, s⟩ ⟨false, n', s'⟩ = decide (n < n') := by unfold Cod.ptLess; simp
              rw [e2, e3, if_neg (by decide)] at e
              have hn1 : ((n : Int) == (n' : Int)) = false := by simp; omega
              have HE := Lib.hid e; clear e e2 e3
              go_wp2
              go_ret
              exact ⟨ret_b HE.out.symm, by first | exact (hb.alloc hbs _).alloc (by simp; omega) _ | exact hb⟩
      · have e := HL.out
        rw [less_end l m k hk1 hk2 (by omega)] at e
        have HE := Lib.hid e; clear e
        go_wp2
        go_ret
        exact ⟨ret_b HE.out.symm, hb⟩
    · have e := HL.out
      rw [less_end l m k hk1 hk2 (by omega)] at e
      have HE := Lib.hid e; clear e
      go_wp2
      go_ret
      exact ⟨ret_b HE.out.symm, hb⟩
end Go.Proofs.YtnlmiicbdhomaaaDoor
