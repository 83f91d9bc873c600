/- The walk of the law CodeOrder. -/
import Derived.Test.YtnlmiicbdhomaaaDoorOrdA
namespace Go.Proofs.YtnlmiicbdhomaaaDoor
open Go.RowKit

theorem strB_at {w : World} {B : Nat} {A : Option Addr} {c : Nat} {l : List UInt8} {X : ByteArray} (h : RdB w B A l) (hX : (⟨l.toArray⟩ : ByteArray) = X) : (convert 25 9 (.slice A l.length c)).run Tryd.prog w = .ok (.string X) w := by
  rw [← hX]; exact strB_of h
theorem key_less (l m : List Pt) (hl : PartsIn l) (hm : PartsIn m) {X Y : ByteArray} (hX : (⟨(Cod.key l).toArray⟩ : ByteArray) = X) (hY : (⟨(Cod.key m).toArray⟩ : ByteArray) = Y) : Go.Op.bytesLess X.toList Y.toList = Cod.less l m := by
  rw [ByteArray.toList_eq, ByteArray.toList_eq, ← hX, ← hY, ← Cod.key_order l m (fun p hp => (hl p hp).1) (fun p hp => (hm p hp).1)]

set_option maxHeartbeats 1000000 in
theorem codeOrder_walk (A : Option Addr) (c : Nat) (l : List Pt) (B : Option Addr) (d : Nat) (m : List Pt) (w : World) (h : RdP w w.heap.size A l) (hll : l.length ≤ 9223372036854775807) (hin : PartsIn l)
    (h' : RdP w w.heap.size B m) (hmm : m.length ≤ 9223372036854775807) (hin' : PartsIn m) :
    Calls Tryd.prog 4 #[.slice A l.length c, .slice B m.length d] w fun e w' => e = .returned (.bool true) ∧ Below w.heap.size w w' := by
  have HIN := Lib.hid hin; clear hin
  have HIN' := Lib.hid hin'; clear hin'
  cases hf : fewB l with
  | false =>
    have HF := Lib.hid hf; clear hf
    go_enter Tryd.func4, Tryd.ntmps4
    go_wp2_with fail
    refine (awake_any _).mono ?_
    rintro e w1 ⟨rfl, hb⟩
    go_wp2_with fail
    refine (few_any A c l _ ((h.below hb (Nat.le_refl _)).more hb.size) hll (fun p hp => (HIN.out p hp).2)).mono ?_
    rintro e w2 ⟨rfl, rfl⟩
    rw [HF.out]
    go_wp2_with fail
    go_ret
    exact ⟨rfl, hb⟩
  | true =>
    cases hf' : fewB m with
    | false =>
      have HF := Lib.hid hf; clear hf
      have HF' := Lib.hid hf'; clear hf'
      go_enter Tryd.func4, Tryd.ntmps4
      go_wp2_with fail
      refine (awake_any _).mono ?_
      rintro e w1 ⟨rfl, hb⟩
      go_wp2_with fail
      refine (few_any A c l _ ((h.below hb (Nat.le_refl _)).more hb.size) hll (fun p hp => (HIN.out p hp).2)).mono ?_
      rintro e w2 ⟨rfl, rfl⟩
      rw [HF.out]
      go_wp2_with fail
      refine (few_any B d m _ ((h'.below hb (Nat.le_refl _)).more hb.size) hmm (fun p hp => (HIN'.out p hp).2)).mono ?_
      rintro e w2 ⟨rfl, rfl⟩
      rw [HF'.out]
      go_wp2_with fail
      go_ret
      exact ⟨rfl, hb⟩
    | true =>
      obtain ⟨hok, hlen, _⟩ := few_ok hf (fun p hp => (HIN.out p hp).1)
      obtain ⟨hok', hlen', _⟩ := few_ok hf' (fun p hp => (HIN'.out p hp).1)
      have HF := Lib.hid hf; clear hf
      have HF' := Lib.hid hf'; clear hf'
      have HOK := Lib.hid hok; clear hok
      have HOK' := Lib.hid hok'; clear hok'
      obtain ⟨X, hX⟩ : ∃ X, (⟨(Cod.key l).toArray⟩ : ByteArray) = X := ⟨_, rfl⟩
      obtain ⟨Y, hY⟩ : ∃ Y, (⟨(Cod.key m).toArray⟩ : ByteArray) = Y := ⟨_, rfl⟩
      have hxy := key_less l m HIN.out HIN'.out hX hY
      have hyx := key_less m l HIN'.out HIN.out hY hX
      have HX := Lib.hid hX; clear hX
      have HY := Lib.hid hY; clear hY
      obtain ⟨L1, hL1⟩ : ∃ L1, Cod.less l m = L1 := ⟨_, rfl⟩
      obtain ⟨L2, hL2⟩ : ∃ L2, Cod.less m l = L2 := ⟨_, rfl⟩
      rw [hL1] at hxy
      rw [hL2] at hyx
      have HL1 := Lib.hid hL1; clear hL1
      have HL2 := Lib.hid hL2; clear hL2
      have key : ∀ L1 L2 : Bool, Hid (Cod.less l m = L1) → Hid (Cod.less m l = L2) → Go.Op.bytesLess X.toList Y.toList = L1 → Go.Op.bytesLess Y.toList X.toList = L2 →
          Calls Tryd.prog 4 #[.slice A l.length c, .slice B m.length d] w fun e w' => e = .returned (.bool true) ∧ Below w.heap.size w w' := by
        clear hxy hyx HL1 HL2 L1 L2
        intro L1 L2 HL1 HL2 hxy hyx
        go_enter Tryd.func4, Tryd.ntmps4
        go_wp2_with fail
        refine (awake_any _).mono ?_
        rintro e w1 ⟨rfl, hb⟩
        have h1 : RdP w1 w1.heap.size A l := (h.below hb (Nat.le_refl _)).more hb.size
        have h1' : RdP w1 w1.heap.size B m := (h'.below hb (Nat.le_refl _)).more hb.size
        go_wp2_with fail
        refine (few_any A c l _ h1 hll (fun p hp => (HIN.out p hp).2)).mono ?_
        rintro e w2 ⟨rfl, rfl⟩
        rw [HF.out]
        go_wp2_with fail
        refine (few_any B d m _ h1' hmm (fun p hp => (HIN'.out p hp).2)).mono ?_
        rintro e w2 ⟨rfl, rfl⟩
        rw [HF'.out]
        go_wp2_with fail
        refine (key_any A c l _ h1 HOK.out hll (by omega)).mono ?_
        rintro e w2 ⟨A2, c2, rfl, ho2, hb2⟩
        have hs2 := strB_at (c := c2) ho2.rd HX.out
        have h2 : RdP w2 w2.heap.size A l := (h1.below hb2 (Nat.le_refl _)).more hb2.size
        have h2' : RdP w2 w2.heap.size B m := (h1'.below hb2 (Nat.le_refl _)).more hb2.size
        have hbb2 : Below w.heap.size w w2 := hb.trans (hb2.mono hb.size)
        clear h1 h1' hb hb2 ho2 h h'
        go_wp2_with fail
        refine (key_any B d m _ h2' HOK'.out hmm (by omega)).mono ?_
        rintro e w3 ⟨A3, c3, rfl, ho3, hb3⟩
        have hs3 := strB_at (c := c3) ho3.rd HY.out
        have h3 : RdP w3 w3.heap.size A l := (h2.below hb3 (Nat.le_refl _)).more hb3.size
        have h3' : RdP w3 w3.heap.size B m := (h2'.below hb3 (Nat.le_refl _)).more hb3.size
        have hbb3 : Below w.heap.size w w3 := hbb2.trans (hb3.mono hbb2.size)
        clear h2 h2' hb3 ho3 hbb2 hs2
        go_wp2_with fail
        refine (less_any A c l B d m _ h3 hll h3' hmm).mono ?_
        rintro e w4 ⟨rfl, hb4⟩
        rw [HL1.out]
        have h4 : RdP w4 w4.heap.size A l := (h3.below hb4 (Nat.le_refl _)).more hb4.size
        have h4' : RdP w4 w4.heap.size B m := (h3'.below hb4 (Nat.le_refl _)).more hb4.size
        have hbb4 : Below w.heap.size w w4 := hbb3.trans (hb4.mono hbb3.size)
        clear h3 h3' hb4 hbb3
        go_wp2_with fail
        refine (less_any B d m A c l _ h4' hmm h4 hll).mono ?_
        rintro e w5 ⟨rfl, hb5⟩
        rw [HL2.out]
        have hbb5 : Below w.heap.size w w5 := hbb4.trans (hb5.mono hbb4.size)
        clear h4 h4' hb5 hbb4
        go_wp2_with fail
        go_ret
        exact ⟨by first | rfl | simp, hbb5⟩
      exact key L1 L2 HL1 HL2 hxy hyx
end Go.Proofs.YtnlmiicbdhomaaaDoor
