/- The contract of the reference's Right of a schedule. (Lines alike written by a program.) -/
import Derived.Test.YtkikamkmpkgmnaaSch
namespace Go.Proofs.Ytkikamkmpkgmnaa
open Go.RowKit

theorem heap_lt {w : World} {g : Nat} {o : Obj} (h : w.heap[g]? = some o) : g < w.heap.size := by
  rcases Nat.lt_or_ge g w.heap.size with hl | hl
  · exact hl
  · rw [Array.getElem?_eq_none hl] at h; cases h
/-- The boxed schedule. -/
def Box (w : World) (g : Nat) (A : Option Addr) (n c : Nat) (ded cred lbp most least : Int) : Prop := w.heap[g]? = some (.cells #[.slice A n c, .int .i64 ded, .int .i64 cred, .int .i64 lbp, .int .i64 most, .int .i64 least] 24)
section
variable {w w' : World} {g : Nat} {A : Option Addr} {n c : Nat} {ded cred lbp most least : Int}
theorem Box.below (h : Box w g A n c ded cred lbp most least) (hb : Below w.heap.size w w') : Box w' g A n c ded cred lbp most least := (hb.block _ (heap_lt h)).trans h
theorem Box.c0 (h : Box w g A n c ded cred lbp most least) : w.cell? ⟨g, 0, none⟩ = some (.slice A n c) := cell_of_row w g 0 _ _ (0, 0) h
theorem Box.c1 (h : Box w g A n c ded cred lbp most least) : w.cell? ⟨g, 1, none⟩ = some (.int .i64 ded) := cell_of_row w g 1 _ _ (0, 0) h
theorem Box.c2 (h : Box w g A n c ded cred lbp most least) : w.cell? ⟨g, 2, none⟩ = some (.int .i64 cred) := cell_of_row w g 2 _ _ (0, 0) h
theorem Box.c3 (h : Box w g A n c ded cred lbp most least) : w.cell? ⟨g, 3, none⟩ = some (.int .i64 lbp) := cell_of_row w g 3 _ _ (0, 0) h
theorem Box.c4 (h : Box w g A n c ded cred lbp most least) : w.cell? ⟨g, 4, none⟩ = some (.int .i64 most) := cell_of_row w g 4 _ _ (0, 0) h
theorem Box.c5 (h : Box w g A n c ded cred lbp most least) : w.cell? ⟨g, 5, none⟩ = some (.int .i64 least) := cell_of_row w g 5 _ _ (0, 0) h
theorem Box.new (w : World) : Box (w.alloc (.cells #[.slice A n c, .int .i64 ded, .int .i64 cred, .int .i64 lbp, .int .i64 most, .int .i64 least] 24)) w.heap.size A n c ded cred lbp most least := heap_alloc_new w _
end
theorem below_dr {B : Nat} {a w : World} {k : Nat} (h : Below B a w) : Below B a (w.drewN k) := ⟨h.os, h.tape, h.output, h.size, h.block⟩
theorem rmoney_b (a : Int) (b : Bool) (h : b = decide (Mon a)) (w : World) : Calls Try.prog 12 #[.int .i64 a] w fun e w' => e = .returned (.bool b) ∧ w = w' := by rw [h]; exact rmoney_any a w
set_option maxHeartbeats 2000000 in
set_option maxRecDepth 100000 in
theorem rright_any (A : Option Addr) (c : Nat) (l : List Br) (ded cred lbp most least : Int) (w : World) (h : RdS w w.heap.size A l) (hl : l.length ≤ 9223372036854775807) :
    Calls Try.prog 5 #[.agg #[.slice A l.length c, .int .i64 ded, .int .i64 cred, .int .i64 lbp, .int .i64 most, .int .i64 least]] w (SaysIf (SchOk l ded cred lbp most least) w) := by
  by_cases t0 : (l.length : Int) < 1
  · go_enter Try.func5, Try.ntmps5
    go_wp2_with fail
    go_ret
    exact says_no ((Below.refl _ _).alloc (Nat.le_refl _) _)
  · by_cases t1 : 10 < (l.length : Int)
    · go_enter Try.func5, Try.ntmps5
      go_wp2_with fail
      go_ret
      exact says_no ((Below.refl _ _).alloc (Nat.le_refl _) _)
    · obtain ⟨g, off, rfl, hg, q0, q1⟩ := h.at_ (k := 0) (by omega)
      rw [Nat.zero_mul, Nat.add_zero] at q0 q1
      obtain ⟨f0, hf0⟩ : ∃ f0, f0 = (l[0]'(by omega)).f := ⟨_, rfl⟩
      rw [← hf0] at q0
      have HF0 := Lib.hid hf0; clear hf0 q1
      have q0' := (World.cell?_alloc_lt w (.cells #[.slice (some ⟨g, off, none⟩) l.length c, .int .i64 ded, .int .i64 cred, .int .i64 lbp, .int .i64 most, .int .i64 least] 24) ⟨g, off, none⟩ hg).trans q0
      clear q0
      by_cases t2 : f0 = 0
      · subst t2
        by_cases t3 : lbp < 0
        · go_enter Try.func5, Try.ntmps5
          go_wp2_with fail
          go_ret
          exact says_no ((Below.refl _ _).alloc (Nat.le_refl _) _)
        · skip
          by_cases t4 : 10000 < lbp
          · go_enter Try.func5, Try.ntmps5
            go_wp2_with fail
            go_ret
            exact says_no ((Below.refl _ _).alloc (Nat.le_refl _) _)
          · skip
            by_cases t5 : most < 0
            · go_enter Try.func5, Try.ntmps5
              go_wp2_with fail
              go_ret
              exact says_no ((Below.refl _ _).alloc (Nat.le_refl _) _)
            · skip
              by_cases t6 : 60 < most
              · go_enter Try.func5, Try.ntmps5
                go_wp2_with fail
                go_ret
                exact says_no ((Below.refl _ _).alloc (Nat.le_refl _) _)
              · skip
                go_enter Try.func5, Try.ntmps5
                go_wp2_with fail
                go_loopw [3, 4, 5] (fun i _ _ wr => ∃ k : Nat, k ≤ l.length ∧ i = .int .i64 (k : Int) ∧ Below w.heap.size w wr ∧ Box wr w.heap.size (some ⟨g, off, none⟩) l.length c ded cred lbp most least ∧ Hid (∀ j, j < k → BrOk l j)) (fun i _ _ _ => l.length - (intOf i).toNat)
                case atStart => exact ⟨0, by omega, rfl, (Below.refl _ _).alloc (Nat.le_refl _) _, Box.new w, Lib.hid (fun j hj => by omega)⟩
                case round =>
                  obtain ⟨k, hk, rfl, hb, hx, HI⟩ := hrel
                  have hz := hb.size
                  have x0 := hx.c0
                  by_cases hlt : k < l.length
                  · obtain ⟨g', off', e1, _, r0, r1⟩ := (h.below hb (Nat.le_refl _)).at_ hlt
                    injection e1 with e1
                    injection e1 with e1 e2
                    subst e1 e2
                    obtain ⟨f, hf⟩ : ∃ f, f = l[k].f := ⟨_, rfl⟩
                    obtain ⟨bp, hbp⟩ : ∃ bp, bp = l[k].b := ⟨_, rfl⟩
                    rw [← hf] at r0
                    rw [← hbp] at r1
                    have HF := Lib.hid hf; have HBP := Lib.hid hbp
                    clear hf hbp
                    have HX := Lib.hid hx
                    clear hx q0'
                    have x0' := (World.cell?_alloc_lt wr (.cells #[.int .i64 f, .int .i64 bp] 42) ⟨w.heap.size, 0, none⟩ (heap_lt HX.out)).trans x0
                    by_cases u1 : Mon f
                    · have K := Lib.hid (rmoney_b f true (decide_eq_true u1).symm)
                      by_cases u2 : bp < 0
                      · go_wp2_with fail
                        refine (K.out _).mono ?_
                        rintro e w' ⟨rfl, rfl⟩
                        go_wp2_with fail
                        go_quiet (fail)
                        go_wp2_with fail
                        go_ret
                        exact says_no (below_dr ((hb.alloc hz _)))
                      · have du2 : decide (bp < 0) = false := decide_eq_false u2
                        by_cases u3 : 10000 < bp
                        · go_wp2_with fail
                          refine (K.out _).mono ?_
                          rintro e w' ⟨rfl, rfl⟩
                          go_wp2_with fail
                          go_quiet (fail)
                          go_wp2_with fail
                          go_ret
                          exact says_no (below_dr ((hb.alloc hz _)))
                        · have du3 : decide (10000 < bp) = false := decide_eq_false u3
                          by_cases u4 : 0 < k
                          · obtain ⟨g', off', e1, hgg, r2, _⟩ := (h.below hb (Nat.le_refl _)).at_ (k := k - 1) (by omega)
                            injection e1 with e1
                            injection e1 with e1 e2
                            subst e1 e2
                            obtain ⟨f1, hf1⟩ : ∃ f1, f1 = (l[k - 1]'(by omega)).f := ⟨_, rfl⟩
                            rw [← hf1] at r2
                            have HF1 := Lib.hid hf1; clear hf1
                            have r2' := (World.cell?_alloc_lt wr (.cells #[.int .i64 f, .int .i64 bp] 42) ⟨g, off + (k - 1) * 2, none⟩ (Nat.lt_of_lt_of_le hgg hz)).trans r2
                            have u4i : decide ((0 : Int) < (k : Int)) = true := by simp; omega
                            by_cases u5 : f ≤ f1
                            · go_wp2_with fail
                              refine (K.out _).mono ?_
                              rintro e w' ⟨rfl, rfl⟩
                              go_wp2_with fail
                              go_quiet (fail)
                              go_wp2_with fail
                              go_ret
                              exact says_no (below_dr ((hb.alloc hz _)))
                            · have HN : Hid (∀ j, j < k + 1 → BrOk l j) := Lib.hid (fun j hj => by
                                rcases Nat.lt_or_eq_of_le (Nat.le_of_lt_succ hj) with h | rfl
                                · exact HI.out j h
                                · exact ⟨hlt, by rw [← HF.out]; exact u1, by rw [← HBP.out]; omega, by rw [← HBP.out]; omega, fun _ => by rw [← HF.out, ← HF1.out]; omega⟩)
                              go_wp2_with fail
                              refine (K.out _).mono ?_
                              rintro e w' ⟨rfl, rfl⟩
                              go_wp2_with fail
                              go_quiet (fail)
                              go_wp2_with fail
                              go_roundw
                              case rel => exact ⟨k + 1, by omega, by go_num, below_dr (hb.alloc hz _), (HX.out.below (below_dr ((Below.refl _ _).alloc (Nat.le_refl _) _))), HN⟩
                              case measure => simp [intOf]; omega
                          · obtain rfl : k = 0 := by omega
                            rw [Nat.zero_mul, Nat.add_zero] at r0 r1
                            have HN : Hid (∀ j, j < 0 + 1 → BrOk l j) := Lib.hid (fun j hj => by
                              obtain rfl : j = 0 := by omega
                              exact ⟨hlt, by rw [← HF.out]; exact u1, by rw [← HBP.out]; omega, by rw [← HBP.out]; omega, fun h0 => by omega⟩)
                            go_wp2_with fail
                            refine (K.out _).mono ?_
                            rintro e w' ⟨rfl, rfl⟩
                            go_wp2_with fail
                            go_quiet (fail)
                            go_wp2_with fail
                            go_roundw
                            case rel => exact ⟨0 + 1, by omega, by go_num, below_dr (hb.alloc hz _), (HX.out.below (below_dr ((Below.refl _ _).alloc (Nat.le_refl _) _))), HN⟩
                            case measure => simp [intOf]; omega
                    · have K := Lib.hid (rmoney_b f false (decide_eq_false u1).symm)
                      go_wp2_with fail
                      refine (K.out _).mono ?_
                      rintro e w' ⟨rfl, rfl⟩
                      go_wp2_with fail
                      go_quiet (fail)
                      go_wp2_with fail
                      go_ret
                      exact says_no (below_dr ((hb.alloc hz _)))
                  · have x1 := hx.c1
                    have x2 := hx.c2
                    have x5 := hx.c5
                    have HALL : Hid (∀ j, j < l.length → BrOk l j) := Lib.hid (fun j hj => HI.out j (by omega))
                    clear q0' hx
                    by_cases v1 : Mon ded
                    · have K1 := Lib.hid (rmoney_b ded true (decide_eq_true v1).symm)
                      by_cases v2 : Mon cred
                      · have K2 := Lib.hid (rmoney_b cred true (decide_eq_true v2).symm)
                        by_cases v3 : Mon least
                        · have K3 := Lib.hid (rmoney_b least true (decide_eq_true v3).symm)
                          have HR : Hid (SchOk l ded cred lbp most least) := Lib.hid ⟨by omega, by omega, fun _ => HF0.out.symm, by omega, by omega, by omega, by omega, HALL.out, v1, v2, v3⟩
                          go_wp2_with fail
                          refine (K1.out _).mono ?_
                          rintro e w' ⟨rfl, rfl⟩
                          go_wp2_with fail
                          refine (K2.out _).mono ?_
                          rintro e w' ⟨rfl, rfl⟩
                          go_wp2_with fail
                          refine (K3.out _).mono ?_
                          rintro e w' ⟨rfl, rfl⟩
                          go_wp2_with fail
                          go_ret
                          exact says_yes HR.out hb
                        · have K3 := Lib.hid (rmoney_b least false (decide_eq_false v3).symm)
                          go_wp2_with fail
                          refine (K1.out _).mono ?_
                          rintro e w' ⟨rfl, rfl⟩
                          go_wp2_with fail
                          refine (K2.out _).mono ?_
                          rintro e w' ⟨rfl, rfl⟩
                          go_wp2_with fail
                          refine (K3.out _).mono ?_
                          rintro e w' ⟨rfl, rfl⟩
                          go_wp2_with fail
                          go_ret
                          exact says_no hb
                      · have K2 := Lib.hid (rmoney_b cred false (decide_eq_false v2).symm)
                        go_wp2_with fail
                        refine (K1.out _).mono ?_
                        rintro e w' ⟨rfl, rfl⟩
                        go_wp2_with fail
                        refine (K2.out _).mono ?_
                        rintro e w' ⟨rfl, rfl⟩
                        go_wp2_with fail
                        go_ret
                        exact says_no hb
                    · have K1 := Lib.hid (rmoney_b ded false (decide_eq_false v1).symm)
                      go_wp2_with fail
                      refine (K1.out _).mono ?_
                      rintro e w' ⟨rfl, rfl⟩
                      go_wp2_with fail
                      go_ret
                      exact says_no hb
      · have t2' : (f0 == 0) = false := by simp; exact t2
        go_enter Try.func5, Try.ntmps5
        go_wp2_with fail
        go_ret
        exact says_no ((Below.refl _ _).alloc (Nat.le_refl _) _)
end Go.Proofs.Ytkikamkmpkgmnaa
