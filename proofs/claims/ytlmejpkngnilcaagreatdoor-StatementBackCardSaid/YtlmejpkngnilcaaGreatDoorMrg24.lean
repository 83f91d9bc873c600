/- Parts of the proof, one behind the other: Contracts of the texts of days, the program's and the reference's.; Contracts of Text (both), of the reference's Weekday; the walks of the laws CivilDates and CivilNext. -/
import Derived.Test.YtlmejpkngnilcaaGreatDoorMrg21
import Derived.Test.YtlmejpkngnilcaaGreatDoorMrg22
import Derived.Test.YtlmejpkngnilcaaGreatDoorMrg02
import Derived.Test.YtlmejpkngnilcaaGreatDoorMrg23
import Derived.Test.YtlmejpkngnilcaaGreatDoorMrg04
import Derived.Lib.LaidTab
import Derived.Lib.ItoaMem
namespace Go.Proofs.YtlmejpkngnilcaaGreatDoor
open Go.RowKit

theorem itoa_d (n : Nat) (hn : n < 10000) (D : List UInt8) (hD : D = Lib.decDigits n) (w : World) (ht : Tab w) :
    Calls Tryz.prog 16 #[.int .i64 (n : Int)] w fun e w' => e = .returned (.string ⟨D.toArray⟩) ∧ Below w.heap.size w w' := by
  refine (Tryz.strconv_Itoa (n : Int) (by omega) (by omega) w ht).mono ?_
  rintro e w' ⟨rfl, k, os, rfl⟩
  exact ⟨by rw [Lib.itoa_nonneg, hD], below_row w k os⟩
theorem rep_any (c : Int) (h0 : 0 ≤ c) (h4 : c ≤ 4) (R : List UInt8) (hR : R = List.replicate c.toNat 48) (w : World) :
    Calls Tryz.prog 96 #[.string ⟨#[48]⟩, .int .i64 c] w fun e w' => e = .returned (.string ⟨R.toArray⟩) ∧ Below w.heap.size w w' := by
  obtain ⟨k, rfl⟩ := Int.eq_ofNat_of_zero_le h0
  refine (Tryz.strings_Repeat ⟨#[48]⟩ k w (by omega) (by show 1 * k ≤ _; omega)).mono ?_
  rintro e w' ⟨rfl, hb⟩
  refine ⟨?_, hb⟩
  rw [hR, Int.toNat_natCast, ← Dig.repeat48]
set_option maxRecDepth 100000 in
theorem padded_any (n k : Nat) (hk : 0 < k) (hk4 : k ≤ 4) (hn : n < 10 ^ k) (w : World) (ht : Tab w) (T : List UInt8) (hT : T = Dig.digW k n) :
    Calls Tryz.prog 64 #[.int .i64 (n : Int), .int .i64 (k : Int)] w fun e w' => e = .returned (.string ⟨T.toArray⟩) ∧ Below w.heap.size w w' := by
  obtain ⟨h1, h2⟩ := Dig.pad k n hk hn
  have hn9 : n < 10000 := Nat.lt_of_lt_of_le hn (Nat.pow_le_pow_right (by omega) hk4)
  obtain ⟨D, hD⟩ : ∃ D, D = Lib.decDigits n := ⟨_, rfl⟩
  obtain ⟨R, hR⟩ : ∃ R : List UInt8, R = List.replicate (k - D.length) 48 := ⟨_, rfl⟩
  rw [← hD] at h1 h2
  rw [← hR] at h2
  rw [← hT] at h2
  have hRl : R.length ≤ 4 := by rw [hR]; simp; omega
  have HD := Lib.hid hD
  have HR := Lib.hid hR
  have H2 := Lib.hid h2
  clear hD hR h2 hT hn
  go_enter Tryz.func64, Tryz.ntmps64
  go_wp2_with fail
  refine (itoa_d n hn9 D HD.out _ ht).mono ?_
  rintro e w1 ⟨rfl, hb1⟩
  go_wp2_with fail
  refine (rep_any _ (by omega) (by omega) R (by rw [HR.out]; congr 1; omega) _).mono ?_
  rintro e w2 ⟨rfl, hb2⟩
  go_wp2_with fail
  go_ret
  exact ⟨by first | (rw [← H2.out]; rfl) | (rw [← H2.out]; simp), hb1.trans (hb2.mono hb1.size)⟩

/-- A digit's cell. -/
theorem bv_digs4 (n : Nat) : bv (Dig.digW 4 n) = [.int .u8 (48 + ((n / 10 / 10 / 10 : Nat) : Int) % 10), .int .u8 (48 + ((n / 10 / 10 : Nat) : Int) % 10), .int .u8 (48 + ((n / 10 : Nat) : Int) % 10), .int .u8 (48 + (n : Int) % 10)] := by
  have e : ∀ m : Nat, ((Dig.dg m).toNat : Int) = 48 + (m : Int) % 10 := fun m => by rw [Dig.dg_nat]; omega
  simp only [Dig.digW, bv, List.nil_append, List.cons_append, List.map_cons, List.map_nil, e]
theorem bv_digs2 (n : Nat) : bv (Dig.digW 2 n) = [.int .u8 (48 + ((n / 10 : Nat) : Int) % 10), .int .u8 (48 + (n : Int) % 10)] := by
  have e : ∀ m : Nat, ((Dig.dg m).toNat : Int) = 48 + (m : Int) % 10 := fun m => by rw [Dig.dg_nat]; omega
  simp only [Dig.digW, bv, List.nil_append, List.cons_append, List.map_cons, List.map_nil, e]
theorem gives_lit {w w' : World} {l : List UInt8} {cs : Array Value} {n : Nat} (hn : n = l.length) (hcs : bv l = cs.toList) (hm : n ≤ maxLen) (hw : w' = w.alloc (.cells cs 5)) :
    GivesB w l (.returned (.slice (some ⟨w.heap.size, 0, none⟩) n n)) w' := by
  subst hw hn
  refine ⟨_, _, rfl, ?_, (Below.refl _ _).alloc (Nat.le_refl _) _⟩
  unfold Own
  rw [hcs]
  exact World.ownsRow_lit (e := 5) (size := 1) w cs l.length (Nat.le_refl _) hm (by have := congrArg List.length hcs; simpa [bv] using this.symm)
end Go.Proofs.YtlmejpkngnilcaaGreatDoor

namespace Go.Proofs.YtlmejpkngnilcaaGreatDoor
open Go.RowKit

/-- The text of a day. -/
def TextOf (n : Int) (e : Ending) : Prop := ∃ y m d, IsDate n y m d ∧ e = .returned (.tuple #[.string ⟨(Dig.text y m d).toArray⟩, .int .i64 0])
theorem textOf_mk {n : Int} {y m d : Nat} {s : List UInt8} (h : IsDate n (y : Int) (m : Int) (d : Int)) (hs : s = Dig.digW 4 y ++ [45] ++ Dig.digW 2 m ++ [45] ++ Dig.digW 2 d) : TextOf n (.returned (.tuple #[.string ⟨s.toArray⟩, .int .i64 0])) :=
  ⟨_, _, _, h, by rw [hs]; rfl⟩
theorem textOf_get {n y m d : Int} {e : Ending} (h : TextOf n e) (hd : IsDate n y m d) : e = .returned (.tuple #[.string ⟨(Dig.text y m d).toArray⟩, .int .i64 0]) := by
  obtain ⟨y', m', d', hd', rfl⟩ := h
  obtain ⟨rfl, rfl, rfl⟩ := isDate_inj hd hd'
  rfl
theorem dateOf_get {n y m d : Int} {e : Ending} (h : DateOf n e) (hd : IsDate n y m d) : e = .returned (.tuple #[.int .i64 y, .int .i64 m, .int .i64 d, .int .i64 0]) := by
  obtain ⟨y', m', d', hd', rfl⟩ := h
  obtain ⟨rfl, rfl, rfl⟩ := isDate_inj hd hd'
  rfl
theorem isDate_nat {n y m d : Int} (h : IsDate n y m d) : ∃ y' m' d' : Nat, y = (y' : Int) ∧ m = (m' : Int) ∧ d = (d' : Int) ∧ y' < 10000 ∧ m' < 100 ∧ d' < 100 := by
  obtain ⟨⟨a, b, c, d', e, f⟩, _⟩ := h
  have := Cal.dim_bd y m
  exact ⟨y.toNat, m.toNat, d.toNat, by omega, by omega, by omega, by omega, by omega, by omega⟩
theorem text_no (n : Int) (h : ¬ (0 ≤ n ∧ n ≤ 3652058)) (w : World) :
    Calls Tryz.prog 45 #[.int .i64 n] w fun e w' => e = .returned (.tuple #[.string ⟨#[]⟩, .int .i64 1]) ∧ w = w' := by
  have H := Lib.hid h; clear h
  go_enter Tryz.func45, Tryz.ntmps45
  go_wp2_with fail
  refine (date_no n H.out _).mono ?_
  rintro e w' ⟨rfl, rfl⟩
  go_wp2_with fail
  go_ret2
  exact ⟨rfl, rfl⟩
set_option maxRecDepth 100000 in
theorem text_yes (n : Int) (h1 : 0 ≤ n) (h2 : n ≤ 3652058) (w : World) (ht : Tab w) :
    Calls Tryz.prog 45 #[.int .i64 n] w fun e w' => TextOf n e ∧ Below w.heap.size w w' := by
  have HT := Lib.hid ht; clear ht
  go_enter Tryz.func45, Tryz.ntmps45
  go_wp2_with fail
  refine (date_yes n h1 h2 _).mono ?_
  rintro e w1 ⟨⟨y, m, d, hd, rfl⟩, hb1⟩
  obtain ⟨y, m, d, rfl, rfl, rfl, hy, hm, hdd⟩ := isDate_nat hd
  obtain ⟨Y, hY⟩ : ∃ Y, Y = Dig.digW 4 y := ⟨_, rfl⟩
  obtain ⟨M, hM⟩ : ∃ M, M = Dig.digW 2 m := ⟨_, rfl⟩
  obtain ⟨D, hD⟩ : ∃ D, D = Dig.digW 2 d := ⟨_, rfl⟩
  have hYl : Y.length = 4 := by rw [hY, Dig.digW_length]
  have hMl : M.length = 2 := by rw [hM, Dig.digW_length]
  have hDl : D.length = 2 := by rw [hD, Dig.digW_length]
  have hYle : Y.length ≤ 4 := by omega
  have hMle : M.length ≤ 2 := by omega
  have hDle : D.length ≤ 2 := by omega
  have HY := Lib.hid hY; clear hY
  have HM := Lib.hid hM; clear hM
  have HD := Lib.hid hD; clear hD
  have HDT := Lib.hid hd; clear hd
  clear hYl hMl hDl
  go_wp2_with fail
  refine (padded_any y 4 (by omega) (by omega) (by omega) _ (HT.out.below hb1) Y HY.out).mono ?_
  rintro e w2 ⟨rfl, hb2⟩
  have hb12 := hb1.trans (hb2.mono hb1.size)
  go_wp2_with fail
  refine (padded_any m 2 (by omega) (by omega) (by omega) _ (HT.out.below hb12) M HM.out).mono ?_
  rintro e w3 ⟨rfl, hb3⟩
  have hb13 := hb12.trans (hb3.mono hb12.size)
  go_wp2_with fail
  refine (padded_any d 2 (by omega) (by omega) (by omega) _ (HT.out.below hb13) D HD.out).mono ?_
  rintro e w4 ⟨rfl, hb4⟩
  have hb14 := hb13.trans (hb4.mono hb13.size)
  go_wp2_with fail
  go_ret2
  exact ⟨textOf_mk HDT.out (by rw [← HY.out, ← HM.out, ← HD.out]; simp), hb14⟩
theorem date_there {n : Int} (h1 : 0 ≤ n) (h2 : n ≤ 3652058) : ∃ y m d, IsDate n y m d := by
  obtain ⟨y, m, d, hd, _⟩ : ∃ y m d, IsDate n y m d ∧ True := by
    have key : ∀ k : Nat, (k : Int) ≤ 3652058 → ∃ y m d, IsDate k y m d := by
      intro k
      induction k with
      | zero => exact fun _ => ⟨1, 1, 1, by decide, by decide⟩
      | succ k ih =>
        intro hk
        obtain ⟨y, m, d, hv, hn⟩ := ih (by omega)
        have hb := Cal.dim_bd y m
        obtain ⟨a, b, c, d', e, f⟩ := hv
        by_cases hd : d < Cal.dim y m
        · exact ⟨y, m, d + 1, ⟨a, b, c, d', by omega, by omega⟩, by unfold Cal.num at hn ⊢; omega⟩
        · have hc := Cal.cum_succ y m c d'
          by_cases hm : m = 12
          · have h13 : Cal.cum y (12 + 1) = Cal.cum y 13 := rfl
            have he := Cal.cum_end y
            have hs := Cal.dby_succ y
            have hdm := Cal.dim_bd (y + 1) 1
            have hy : y < 9999 := by
              rcases Int.lt_or_eq_of_le b with h | h
              · exact h
              · have hmx := Cal.dby_max
                have hq : Cal.dby (y + 1) = Cal.dby 10000 := by rw [h]; rfl
                unfold Cal.num at hn
                subst hm
                omega
            refine ⟨y + 1, 1, 1, ⟨by omega, by omega, by omega, by omega, by omega, by omega⟩, ?_⟩
            unfold Cal.num at hn ⊢
            subst hm
            rw [Cal.cum_one]; omega
          · have hdm := Cal.dim_bd y (m + 1)
            exact ⟨y, m + 1, 1, ⟨a, b, by omega, by omega, by omega, by omega⟩, by unfold Cal.num at hn ⊢; omega⟩
    obtain ⟨y, m, d, h⟩ := key n.toNat (by omega)
    rw [show ((n.toNat : Nat) : Int) = n from by omega] at h
    exact ⟨y, m, d, h, trivial⟩
  exact ⟨y, m, d, hd⟩

theorem bytesLess_asym {x y : List UInt8} (h : Go.Op.bytesLess x y = true) : Go.Op.bytesLess y x = false := by
  induction x generalizing y with
  | nil => cases y <;> rfl
  | cons a x ih =>
    cases y with
    | nil => cases h
    | cons b y =>
      rw [Dig.bytesLess_cons] at h ⊢
      rw [Bool.or_eq_true, Bool.and_eq_true, decide_eq_true_eq, beq_iff_eq, UInt8.lt_iff_toNat_lt] at h
      rw [Bool.or_eq_false_iff, Bool.and_eq_false_iff, decide_eq_false_iff_not, UInt8.lt_iff_toNat_lt, beq_eq_false_iff_ne]
      rcases h with h | ⟨rfl, h⟩
      · refine ⟨by omega, .inl ?_⟩
        rintro rfl
        omega
      · exact ⟨by omega, .inr (ih h)⟩
end Go.Proofs.YtlmejpkngnilcaaGreatDoor
