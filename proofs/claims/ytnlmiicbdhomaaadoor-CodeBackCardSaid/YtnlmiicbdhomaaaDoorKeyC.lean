/- 'awake', 'few', and the walk of the law CodeKeys. -/
import Derived.Test.YtnlmiicbdhomaaaDoorKeyB
import Derived.Deep.RegionHeld
namespace Go.Proofs.YtnlmiicbdhomaaaDoor
open Go.RowKit

/-- string(b) of these bytes. -/
def StrB (w : World) (A : Option Addr) (n c : Nat) (l : List UInt8) : Prop := (convert 25 9 (.slice A n c)).run Tryd.prog w = .ok (.string ⟨l.toArray⟩) w
theorem strB_of {w : World} {B : Nat} {A : Option Addr} {c : Nat} {l : List UInt8} (h : RdB w B A l) : StrB w A l.length c l := run_string_b w bt Tryd.underlying9 B A _ c l rfl h

def awk : List Pt := [⟨false, 7, .empty⟩, ⟨true, 0, ⟨#[97]⟩⟩]
theorem awk_key : Cod.key awk = [17, 7, 32, 97, 0, 0] := by
  have e1 : Cod.be 7 = [7] := by
    rw [Cod.be_pos (by omega), show 7 / 256 = 0 from rfl, Cod.be_zero]; rfl
  simp only [awk, Cod.key, List.flatMap_cons, List.flatMap_nil, Cod.partKey, e1]
  rfl

set_option maxHeartbeats 400000 in
theorem awake_any (w : World) : Calls Tryd.prog 9 #[] w fun e w' => e = .returned (.bool true) ∧ Below w.heap.size w w' := by
  go_enter Tryd.func9, Tryd.ntmps9
  go_wp2_with fail
  refine (key_any (some ⟨w.heap.size, 0, none⟩) 2 awk _ ?hrd ?hok (by simp [awk]) (by rw [awk_key]; simp)).mono ?_
  case hrd =>
    refine ⟨by rfl, fun _ => ⟨_, rfl, by simp, fun j u hu => ?_⟩⟩
    have hadd : (⟨w.heap.size, 0, none⟩ : Addr).add j = ⟨w.heap.size, j, none⟩ := by unfold Addr.add; split <;> simp_all
    rw [hadd, cell_of_row _ w.heap.size j _ _ (0, 0) (heap_alloc_new w _)]
    show (pv awk).toArray[j]? = some u
    simpa using hu
  case hok =>
    intro p hp
    simp only [awk, List.mem_cons, List.not_mem_nil, or_false] at hp
    rcases hp with rfl | rfl
    · exact ⟨by decide, by decide⟩
    · exact ⟨by decide, by decide⟩
  rw [awk_key]
  rintro e w1 ⟨A1, c1, rfl, ho, hb⟩
  have hs : (convert 25 9 (.slice A1 6 c1)).run Tryd.prog w1 = .ok (.string ⟨#[17, 7, 32, 97, 0, 0]⟩) w1 := strB_of (c := c1) ho.rd
  have hb2 : Below w.heap.size w w1 := ((Below.refl _ _).alloc (Nat.le_refl _) _).trans (hb.mono (by simp))
  go_wp2_with fail
  go_ret
  exact ⟨rfl, hb2⟩

def fewB (l : List Pt) : Bool := decide (l.length ≤ 200) && l.all (fun p => decide (p.s.size ≤ 2000))
theorem few_any (A : Option Addr) (c : Nat) (l : List Pt) (w : World) (h : RdP w w.heap.size A l) (hll : l.length ≤ 9223372036854775807) (hok : ∀ p ∈ l, p.s.size ≤ 9223372036854775807) :
    Calls Tryd.prog 10 #[.slice A l.length c] w fun e w' => e = .returned (.bool (fewB l)) ∧ w = w' := by
  by_cases h2 : 200 < (l.length : Int)
  · have e : fewB l = false := by unfold fewB; rw [decide_eq_false (by omega)]; rfl
    have HE := Lib.hid e; clear e
    go_enter Tryd.func10, Tryd.ntmps10
    go_wp2
    go_ret
    exact ⟨ret_b HE.out.symm, rfl⟩
  · have HOK := Lib.hid hok; clear hok
    go_enter Tryd.func10, Tryd.ntmps10
    go_wp2
    go_loop [3] (fun i => ∃ k : Nat, k ≤ l.length ∧ i = .int .i64 (k : Int) ∧ Hid (∀ p ∈ l.take k, p.s.size ≤ 2000)) (fun i => l.length - (intOf i).toNat)
    case atStart => exact ⟨0, by omega, rfl, Lib.hid (by simp)⟩
    case round =>
      obtain ⟨k, hk, rfl, HI⟩ := hrel
      by_cases hlt : k < l.length
      · obtain ⟨b, off, rfl, hbb, q0, q1, q2⟩ := h.at_ hlt
        have hsz := HOK.out l[k] (List.getElem_mem _)
        by_cases hs : 2000 < (l[k].s.size : Int)
        · have e : fewB l = false := by
            unfold fewB
            have : (l.all fun p => decide (p.s.size ≤ 2000)) = false := by
              rw [List.all_eq_false]
              exact ⟨l[k], List.getElem_mem _, by simp; omega⟩
            rw [this, Bool.and_false]
          have HE := Lib.hid e; clear e
          go_wp2
          go_ret
          exact ⟨ret_b HE.out.symm, rfl⟩
        · go_wp2
          go_round
          case rel =>
            refine ⟨k + 1, by omega, by go_num, Lib.hid ?_⟩
            intro p hp
            rw [List.take_succ_eq_append_getElem hlt, List.mem_append] at hp
            rcases hp with hp | hp
            · exact HI.out p hp
            · simp at hp; rw [hp]; omega
          case measure => simp [intOf]; omega
      · have hkl : k = l.length := by omega
        have e : fewB l = true := by
          unfold fewB
          have hI := HI.out
          rw [hkl, List.take_length] at hI
          rw [decide_eq_true (by omega), List.all_eq_true.2 (fun p hp => decide_eq_true (hI p hp))]
          rfl
        have HE := Lib.hid e; clear e hkl
        go_wp2
        go_ret
        exact ⟨ret_b HE.out.symm, rfl⟩

theorem esc_le (l : List UInt8) : (Esc.esc 0 [0, 255] l).length ≤ 2 * l.length := by
  rw [Esc.esc_len 0 [0, 255] (by simp)]
  have := List.count_le_length (a := (0 : UInt8)) (l := l)
  simp; omega
theorem key_few (l : List Pt) (m : Nat) (hs : ∀ p ∈ l, p.s.size ≤ m) (hn : ∀ p ∈ l, p.n < 18446744073709551616) : (Cod.key l).length ≤ l.length * (2 * m + 12) := by
  induction l with
  | nil => simp [Cod.key]
  | cons p l ih =>
    have h1 := ih (fun q hq => hs q (List.mem_cons_of_mem _ hq)) (fun q hq => hn q (List.mem_cons_of_mem _ hq))
    have h2 : (Cod.partKey p).length ≤ 2 * m + 12 := by
      have h3 := hs p (List.mem_cons_self)
      have h4 := Cod.be_len (hn p (List.mem_cons_self))
      have h5 := esc_le p.s.data.toList
      have h6 : p.s.data.toList.length = p.s.size := by simp
      unfold Cod.partKey
      split
      · simp only [List.length_cons, List.length_append, List.length_nil]; omega
      · simp only [List.length_cons]; omega
    have e : Cod.key (p :: l) = Cod.partKey p ++ Cod.key l := rfl
    rw [e, List.length_append, List.length_cons, Nat.add_mul]
    omega
theorem few_ok {l : List Pt} (h : fewB l = true) (hn : ∀ p ∈ l, p.n < 18446744073709551616) : (∀ p ∈ l, PartOk p) ∧ (Cod.key l).length ≤ 1000000 ∧ l.length ≤ 200 := by
  unfold fewB at h
  rw [Bool.and_eq_true] at h
  have h1 : l.length ≤ 200 := of_decide_eq_true h.1
  have h2 : ∀ p ∈ l, p.s.size ≤ 2000 := fun p hp => of_decide_eq_true (List.all_eq_true.1 h.2 p hp)
  refine ⟨fun p hp => ⟨hn p hp, by have := h2 p hp; omega⟩, ?_, h1⟩
  have h3 := key_few l 2000 h2 hn
  have h4 : l.length * (2 * 2000 + 12) ≤ 200 * (2 * 2000 + 12) := Nat.mul_le_mul_right _ h1
  omega
/-- What a law is told of a slice of parts that came in. -/
def PartsIn (l : List Pt) : Prop := ∀ p ∈ l, p.n < 18446744073709551616 ∧ p.s.size ≤ 9223372036854775807

theorem keys_keep {w w' : World} {A B : Option Addr} {c : Nat} {k : List UInt8} {l : List Pt} (hk : RdB w w.heap.size A k) (hl : RdP w w.heap.size B l) (hb : Below w.heap.size w w') :
    StrB w' A k.length c k ∧ RdP w' w'.heap.size B l ∧ Below w.heap.size w w' :=
  ⟨strB_of (hk.below hb (Nat.le_refl _)), (hl.below hb (Nat.le_refl _)).more hb.size, hb⟩

set_option maxHeartbeats 1000000 in
theorem codeKeys_walk (A : Option Addr) (c : Nat) (l : List Pt) (w : World) (h : RdP w w.heap.size A l) (hll : l.length ≤ 9223372036854775807) (hin : PartsIn l) :
    Calls Tryd.prog 3 #[.slice A l.length c] w fun e w' => e = .returned (.bool true) ∧ Below w.heap.size w w' := by
  have HIN := Lib.hid hin; clear hin
  cases hf : fewB l with
  | false =>
    have HF := Lib.hid hf; clear hf
    go_enter Tryd.func3, Tryd.ntmps3
    go_wp2_with fail
    refine (awake_any _).mono ?_
    rintro e w1 ⟨rfl, hb⟩
    go_wp2_with fail
    refine (few_any A c l _ ((h.below hb (Nat.le_refl _)).more hb.size) hll (fun p hp => (HIN.out p hp).2)).mono ?_
    rintro e w2 ⟨rfl, rfl⟩
    rw [HF.out]
    go_wp2_with fail
    go_ret
    exact ⟨rfl, hb⟩
  | true =>
    obtain ⟨hok, hlen, _⟩ := few_ok hf (fun p hp => (HIN.out p hp).1)
    have HF := Lib.hid hf; clear hf
    have HOK := Lib.hid hok; clear hok
    go_enter Tryd.func3, Tryd.ntmps3
    go_wp2_with fail
    refine (awake_any _).mono ?_
    rintro e w1 ⟨rfl, hb⟩
    have h1 : RdP w1 w1.heap.size A l := (h.below hb (Nat.le_refl _)).more hb.size
    go_wp2_with fail
    refine (few_any A c l _ h1 hll (fun p hp => (HIN.out p hp).2)).mono ?_
    rintro e w2 ⟨rfl, rfl⟩
    rw [HF.out]
    go_wp2_with fail
    refine (key_any A c l _ h1 HOK.out hll (by omega)).mono ?_
    rintro e w2 ⟨A2, c2, rfl, ho2, hb2⟩
    have hbb : Below w.heap.size w w2 := hb.trans (hb2.mono hb.size)
    have h2 : RdP w2 w2.heap.size A l := (h1.below hb2 (Nat.le_refl _)).more hb2.size
    have r2 := ho2.rd
    clear hb hb2 ho2 h1 h
    go_wp2_with fail
    go_region_held (fun w' => (convert 25 9 (.slice A2 (Cod.key l).length c2)).run Tryd.prog w' = .ok (.string ⟨(Cod.key l).toArray⟩) w' ∧ RdP w' w'.heap.size A l ∧ Below w2.heap.size w2 w')
      (first | exact keys_keep r2 h2 ((Below.refl _ _).drew) | exact keys_keep r2 h2 B3)
      (first
        | (go_at_call 12; refine (rkey_any A c l _ (by go_split_ands; assumption) HOK.out hll (by omega)).mono ?_; rintro e w3 ⟨A3, c3, rfl, ho3, hb3⟩; have q3 := strB_of (c := c3) ho3.rd; unfold StrB at q3; have B3 := Below.trans (b := _) (by go_split_ands; assumption : Below w2.heap.size w2 _) (hb3.mono (by go_split_ands; exact Below.size (by assumption)))))
    go_wp2_with fail
    go_ret
    exact ⟨rfl, hbb.trans (B3.mono hbb.size)⟩
end Go.Proofs.YtnlmiicbdhomaaaDoor
