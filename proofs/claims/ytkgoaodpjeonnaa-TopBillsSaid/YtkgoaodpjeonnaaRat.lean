/- The program's Right, taxed and Tax of a schedule that may be. -/
import Derived.Test.YtkgoaodpjeonnaaSchR
namespace Go.Proofs.Ytkgoaodpjeonnaa
open Go.RowKit

theorem allIn1 {a : Int} (h : Mon a) : true = allIn 0 1125899906842624 [a] := (allIn_iff.2 (by intro x hx; simp at hx; subst hx; exact h)).symm
theorem allIn3 {a b c : Int} (ha : Mon a) (hb : Mon b) (hc : Mon c) : true = allIn 0 1125899906842624 [a, b, c] := (allIn_iff.2 (by intro x hx; simp at hx; rcases hx with rfl | rfl | rfl <;> assumption)).symm
/-- The boxed schedule's place behind what was laid then. -/
theorem Box.on {w w' : World} {g : Nat} {A : Option Addr} {n c : Nat} {ded cred lbp most least : Int} (h : Box w g A n c ded cred lbp most least) (hb : Below w.heap.size w w') : Box w' g A n c ded cred lbp most least := h.below hb
set_option maxHeartbeats 400000 in
set_option maxRecDepth 100000 in
theorem right_any (A : Option Addr) (c : Nat) (l : List Br) (ded cred lbp most least : Int) (w : World) (h : RdS w w.heap.size A l) (ok : SchOk l ded cred lbp most least) :
    Calls Try.prog 40 #[.agg #[.slice A l.length c, .int .i64 ded, .int .i64 cred, .int .i64 lbp, .int .i64 most, .int .i64 least]] w fun e w' => e = .returned (.bool true) ∧ Below w.heap.size w w' := by
  obtain ⟨o1, o10, oz, l0, l1, m0, m1, oall, od, oc, ol⟩ := ok
  have HALL := Lib.hid oall
  have HZ := Lib.hid (oz (by omega))
  have K3 := Lib.hid (money3 ded cred least true (allIn3 od oc ol))
  clear oall oz od oc ol
  go_enter Try.func40, Try.ntmps40
  go_wp2_with fail
  go_loopw [3, 5, 39] (fun p _ i wr => ∃ (k : Nat) (q : Int), k ≤ l.length ∧ i = .int .i64 (k : Int) ∧ p = .int .i64 q ∧ Below w.heap.size w wr ∧ Box wr w.heap.size A l.length c ded cred lbp most least ∧ Hid ((k = 0 ∧ q = -1) ∨ ∃ h : 0 < k ∧ k ≤ l.length, q = (l[k - 1]'(by omega)).f)) (fun _ _ i _ => l.length - (intOf i).toNat)
  case atStart => exact ⟨0, -1, by omega, rfl, rfl, (Below.refl _ _).alloc (Nat.le_refl _) _, Box.new w, Lib.hid (.inl ⟨rfl, rfl⟩)⟩
  case round =>
    obtain ⟨k, q, hk, rfl, rfl, hb, hx, HQ⟩ := hrel
    have hz := hb.size
    by_cases hlt : k < l.length
    · obtain ⟨g, off, rfl, hg, r0, r1⟩ := (h.below hb (Nat.le_refl _)).at_ hlt
      obtain ⟨f, hf⟩ : ∃ f, f = l[k].f := ⟨_, rfl⟩
      obtain ⟨bp, hbp⟩ : ∃ bp, bp = l[k].b := ⟨_, rfl⟩
      obtain ⟨_, om, ob0, ob1, olt⟩ := HALL.out k hlt
      rw [← hf] at r0 om olt
      rw [← hbp] at r1 ob0 ob1
      have hqf : q < f := by
        rcases HQ.out with ⟨_, rfl⟩ | ⟨hh, rfl⟩
        · have := om.1; omega
        · exact olt hh.1
      have K1 := Lib.hid (money1 f true (allIn1 om))
      have HF := Lib.hid hf
      have HX := Lib.hid hx
      clear hf hbp olt om hx
      have hlt2 : ¬ f ≤ q := by omega
      go_wp2_with fail
      refine (K1.out _ _ (by simp)).mono ?_
      rintro e w1 ⟨rfl, hb1⟩
      have hn := hb1.block wr.heap.size (by simp)
      rw [heap_alloc_new] at hn
      have y0 := cell_of_row w1 wr.heap.size 0 _ _ (0, 0) hn
      have y1 := cell_of_row w1 wr.heap.size 1 _ _ (0, 0) hn
      simp at y0 y1
      have hb2 : Below w.heap.size w w1 := (hb.alloc hz _).trans (hb1.mono (by simp; omega))
      have HX1 := Lib.hid ((HX.out.on ((Below.refl _ _).alloc (Nat.le_refl _) (.cells #[.int .i64 f, .int .i64 bp] 71))).on hb1)
      clear hn
      go_wp2_with fail
      go_roundw
      case rel => exact ⟨k + 1, f, by omega, by go_num, rfl, hb2, HX1.out, Lib.hid (.inr ⟨⟨by omega, by omega⟩, HF.out⟩)⟩
      case measure => simp [intOf]; omega
    · obtain ⟨g, off, rfl, hg, r0, r1⟩ := (h.below hb (Nat.le_refl _)).at_ (k := 0) (by omega)
      rw [Nat.zero_mul, Nat.add_zero] at r0 r1
      rw [HZ.out] at r0
      have x0 := hx.c0
      have x1 := hx.c1
      have x2 := hx.c2
      have x5 := hx.c5
      clear r1 hx
      go_wp2_with fail
      refine (K3.out _ _ rfl).mono ?_
      rintro e w1 ⟨rfl, hb1⟩
      go_wp2_with fail
      go_ret
      exact ⟨rfl, hb.trans (hb1.mono hz)⟩
end Go.Proofs.Ytkgoaodpjeonnaa
