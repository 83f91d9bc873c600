/- Parts of the proof, one behind the other: Contracts of version: a number's name, a name's number, whatever the four bytes ahead are. -/
import Derived.Test.YtekbdedpombgcaaGreatDoorMrg30
import Derived.Test.YtekbdedpombgcaaGreatDoorMrg09
import Derived.Test.YtekbdedpombgcaaGreatDoorMrg31
import Derived.Test.YtekbdedpombgcaaGreatDoorMrg44
import Derived.Test.YtekbdedpombgcaaGreatDoorMrg32
import Derived.Test.YtekbdedpombgcaaGreatDoorMrg33
namespace Go.Proofs.YtekbdedpombgcaaGreatDoor
open Go.RowKit

namespace Ver
/-- A number's name. -/
def nm (p : List UInt8) (n : Nat) : List UInt8 := p ++ Dig.digW 6 n
/-- A name's number; 0: it is none. -/
def nb (p s : List UInt8) : Nat := if s.length = 10 ∧ s.take 4 = p ∧ Prs.digs (s.drop 4) = true then Prs.dval 0 (s.drop 4) else 0
theorem itoa6 (n : Nat) (hn : n < 1000000) (D : List UInt8) (hD : D = Lib.decDigits n) (w : World) (ht : Tab w) :
    Calls Tryz.prog 82 #[.int .i64 (n : Int)] w fun e w' => e = .returned (.string ⟨D.toArray⟩) ∧ Below w.heap.size w w' := by
  refine (Tryz.strconv_Itoa (n : Int) (by omega) (by omega) w ht).mono ?_
  rintro e w' ⟨rfl, k, os, rfl⟩
  exact ⟨by rw [Lib.itoa_nonneg, hD], below_row w k os⟩
theorem rep6 (c : Int) (h0 : 0 ≤ c) (h4 : c ≤ 6) (R : List UInt8) (hR : R = List.replicate c.toNat 48) (w : World) :
    Calls Tryz.prog 83 #[.string ⟨#[48]⟩, .int .i64 c] w fun e w' => e = .returned (.string ⟨R.toArray⟩) ∧ Below w.heap.size w w' := by
  obtain ⟨k, rfl⟩ := Int.eq_ofNat_of_zero_le h0
  refine (Tryz.strings_Repeat ⟨#[48]⟩ k w (by omega) (by show 1 * k ≤ _; omega)).mono ?_
  rintro e w' ⟨rfl, hb⟩
  refine ⟨?_, hb⟩
  rw [hR, Int.toNat_natCast, ← Dig.repeat48]
set_option maxHeartbeats 1000000 in
set_option maxRecDepth 100000 in
theorem named_any (p : List UInt8) (n : Nat) (hp : p.length = 4) (hn : n < 1000000) (w : World) (ht : Tab w) (T : List UInt8) (hT : T = nm p n) :
    Calls Tryz.prog 37 #[.string ⟨p.toArray⟩, .int .i64 (n : Int)] w fun e w' => e = .returned (.string ⟨T.toArray⟩) ∧ Below w.heap.size w w' := by
  obtain ⟨h1, h2⟩ := Dig.pad 6 n (by omega) hn
  obtain ⟨D, hD⟩ : ∃ D, D = Lib.decDigits n := ⟨_, rfl⟩
  obtain ⟨R, hR⟩ : ∃ R : List UInt8, R = List.replicate (6 - D.length) 48 := ⟨_, rfl⟩
  rw [← hD] at h1 h2
  rw [← hR] at h2
  unfold nm at hT
  rw [← h2] at hT
  have hRl : R.length ≤ 6 := by rw [hR]; simp
  have HD := Lib.hid hD
  have HR := Lib.hid hR
  have HT := Lib.hid hT
  clear hD hR h2 hT
  obtain ⟨P, hP⟩ : ∃ P, P = (⟨p.toArray⟩ : ByteArray) := ⟨_, rfl⟩
  have hp4 : P.size = 4 := by rw [hP]; simpa [ByteArray.size] using hp
  have HP := Lib.hid hP
  rw [← hP]
  clear hP
  go_enter Tryz.func37, Tryz.ntmps37
  go_wp2_with fail
  refine (itoa6 n hn D HD.out _ ht).mono ?_
  rintro e w1 ⟨rfl, hb1⟩
  go_wp2_with fail
  refine (rep6 _ (by omega) (by omega) R (by rw [HR.out]; congr 1; omega) _).mono ?_
  rintro e w2 ⟨rfl, hb2⟩
  go_wp2_with fail
  go_ret
  exact ⟨by rw [HT.out, HP.out]; simp; apply ByteArray.ext; simp, hb1.trans (hb2.mono hb1.size)⟩
theorem hasPre_iff (p l : List UInt8) : Lib.hasPrefix l p = true ↔ ∃ r, l = p ++ r := by
  unfold Lib.hasPrefix
  rw [List.isPrefixOf_iff_prefix]
  exact ⟨fun ⟨r, h⟩ => ⟨r, h.symm⟩, fun ⟨r, h⟩ => ⟨r, h.symm⟩⟩
set_option maxRecDepth 100000 in
theorem scut_any (pre S R : ByteArray) (hp4 : pre.size = 4) (q : Bool) (hq : Lib.hasPrefix S.data.toList pre.data.toList = q) (hR : q = true → S.extract 4 S.size = R ∧ 4 ≤ S.size) (w : World) :
    Calls Tryz.prog 134 #[.string S, .string pre] w fun e w' => e = .returned (.tuple #[.string (if q = true then R else S), .bool q]) ∧ w' = w := by
  have K := fun w => Tryz.stringslite_HasPrefix S pre w
  rw [hq] at K
  have HK := Lib.hid K
  clear K hq
  obtain ⟨P, hP⟩ : ∃ P, P = pre := ⟨_, rfl⟩
  rw [← hP] at HK hp4 ⊢
  clear hP
  rcases q with _ | _
  · clear hR
    go_enter Tryz.func134, Tryz.ntmps134
    go_wp2_with fail
    refine (HK.out w).mono ?_
    rintro e w1 ⟨rfl, rfl⟩
    go_wp2_with fail
    go_ret2
    exact ⟨rfl, rfl⟩
  · obtain ⟨hR, hS4⟩ := hR rfl
    go_enter Tryz.func134, Tryz.ntmps134
    go_wp2_with fail
    refine (HK.out w).mono ?_
    rintro e w1 ⟨rfl, rfl⟩
    go_wp2_with fail
    go_ret2
    exact ⟨rfl, rfl⟩
set_option maxRecDepth 100000 in
theorem cut_any (pre S R : ByteArray) (hp4 : pre.size = 4) (q : Bool) (hq : Lib.hasPrefix S.data.toList pre.data.toList = q) (hR : q = true → S.extract 4 S.size = R ∧ 4 ≤ S.size) (w : World) :
    Calls Tryz.prog 65 #[.string S, .string pre] w fun e w' => e = .returned (.tuple #[.string (if q = true then R else S), .bool q]) ∧ w' = w := by
  have HK := Lib.hid (scut_any pre S R hp4 q hq hR w)
  obtain ⟨P, hP⟩ : ∃ P, P = pre := ⟨_, rfl⟩
  obtain ⟨T, hT⟩ : ∃ T, T = (if q = true then R else S) := ⟨_, rfl⟩
  rw [← hP, ← hT] at HK ⊢
  clear hP hT hq hR
  go_enter Tryz.func65, Tryz.ntmps65
  go_wp2_with fail
  refine HK.out.mono ?_
  rintro e w1 ⟨rfl, rfl⟩
  go_wp2_with fail
  go_ret2
  exact ⟨rfl, rfl⟩
theorem ret_b {a b : Bool} (h : a = b) : Ending.returned (.bool a) = .returned (.bool b) := by rw [h]
theorem pred6 (w : World) : PredAt Tryz.prog 67 #[] encR Prs.odd w := fun W r _ => by
  unfold FnGives
  by_cases h1 : (r : Int) < 48
  · have e : Prs.odd r = true := by unfold Prs.odd; simp; omega
    have E := Lib.hid e; clear e
    go_enter Tryz.func67, Tryz.ntmps67
    go_wp2
    go_ret
    exact ⟨ret_b E.out.symm, 0, rfl⟩
  · by_cases h2 : 57 < (r : Int)
    · have e : Prs.odd r = true := by unfold Prs.odd; simp; omega
      have E := Lib.hid e; clear e
      go_enter Tryz.func67, Tryz.ntmps67
      go_wp2
      go_ret
      exact ⟨ret_b E.out.symm, 0, rfl⟩
    · have e : Prs.odd r = false := by unfold Prs.odd; simp; omega
      have E := Lib.hid e; clear e
      go_enter Tryz.func67, Tryz.ntmps67
      go_wp2
      go_ret
      exact ⟨ret_b E.out.symm, 0, rfl⟩
theorem contains6 (x : ByteArray) (b : Bool) (hb : b = !Prs.digs x.data.toList) (w : World) :
    Calls Tryz.prog 66 #[.string x, .func (.func 67) #[] #[]] w fun e w' => e = .returned (.bool b) ∧ Below w.heap.size w w' := by
  refine (Tryz.strings_ContainsFunc 67 #[] (enters_of Tryz.func67 (by kernel_rfl) rfl) Prs.odd x w (pred6 w)).mono ?_
  rintro e w' ⟨rfl, hb2⟩
  exact ⟨by rw [Prs.odd_digs, hb], hb2⟩
theorem atoi6 (x : ByteArray) (n : Nat) (hn : n = Prs.dval 0 x.data.toList) (hd : Prs.digs x.data.toList = true) (h0 : 0 < x.size) (h4 : x.size ≤ 18) (w : World) :
    Calls Tryz.prog 68 #[.string x] w fun e w' => e = .returned (.tuple #[.int .i64 (n : Int), .nilIface]) ∧ Below w.heap.size w w' := by
  refine (Tryz.strconv_Atoi x (n : Int) h4 (by rw [Prs.atoi_digs hd (by simpa using h0), hn]) w).mono ?_
  rintro e w' ⟨rfl, t, rfl⟩
  exact ⟨rfl, ⟨rfl, rfl, rfl, by rw [Lib.bytesWorld_size]; omega, fun i hi => Lib.bytesWorld_at_old w 5 t i hi⟩⟩
theorem nb_no (p l : List UInt8) (h : ¬ ∃ r, l = p ++ r) : nb p l = 0 := by
  unfold nb
  rw [if_neg]
  rintro ⟨_, h2, _⟩
  exact h ⟨l.drop 4, by rw [← h2, List.take_append_drop]⟩
theorem nb_pre (p r : List UInt8) (hp : p.length = 4) : nb p (p ++ r) = if r.length = 6 ∧ Prs.digs r = true then Prs.dval 0 r else 0 := by
  unfold nb
  have e1 : (p ++ r).take 4 = p := by rw [← hp, List.take_left]
  have e2 : (p ++ r).drop 4 = r := by rw [← hp, List.drop_left]
  rw [e1, e2]
  have e3 : ((p ++ r).length = 10) = (r.length = 6) := by rw [List.length_append, hp]; exact propext ⟨fun h => by omega, fun h => by omega⟩
  simp only [e3, true_and]
set_option maxHeartbeats 1000000 in
set_option maxRecDepth 100000 in
theorem numbered_any (p : List UInt8) (hp : p.length = 4) (l : List UInt8) (w : World) : Calls Tryz.prog 28 #[.string ⟨p.toArray⟩, .string ⟨l.toArray⟩] w fun e w' => e = .returned (.int .i64 (nb p l : Int)) ∧ Below w.heap.size w w' := by
  obtain ⟨pre, hpre⟩ : ∃ pre, pre = (⟨p.toArray⟩ : ByteArray) := ⟨_, rfl⟩
  have hp4 : pre.size = 4 := by rw [hpre]; simpa [ByteArray.size] using hp
  have hpd : pre.data.toList = p := by rw [hpre]
  by_cases h : ∃ r, l = p ++ r
  · obtain ⟨r, rfl⟩ := h
    rw [nb_pre p r hp, ← hpre]
    have KC := Lib.hid (cut_any pre ⟨(p ++ r).toArray⟩ ⟨r.toArray⟩ hp4 true (by rw [hpd]; exact (hasPre_iff _ _).2 ⟨r, rfl⟩) (fun _ => by
      refine ⟨?_, by simp [ByteArray.size, hp]⟩
      apply ByteArray.ext
      have h4 : 4 = p.length := hp.symm
      simp [ByteArray.size, h4]) w)
    simp only [if_true] at KC
    obtain ⟨b, hb⟩ : ∃ b, b = !Prs.digs r := ⟨_, rfl⟩
    have KF := Lib.hid (fun w => contains6 ⟨r.toArray⟩ b hb w)
    have hsz : (⟨r.toArray⟩ : ByteArray).size = r.length := by simp [ByteArray.size]
    have KA := Lib.hid (fun (hd : Prs.digs r = true) (h6 : r.length = 6) => atoi6 ⟨r.toArray⟩ (Prs.dval 0 r) rfl hd (by omega) (by omega))
    obtain ⟨S, hS⟩ : ∃ S, S = (⟨(p ++ r).toArray⟩ : ByteArray) := ⟨_, rfl⟩
    obtain ⟨R, hR⟩ : ∃ R, R = (⟨r.toArray⟩ : ByteArray) := ⟨_, rfl⟩
    rw [← hS, ← hR] at KC
    rw [← hR] at KF KA hsz
    rw [← hS]
    have HB := Lib.hid hb
    clear hS hR hb
    obtain ⟨L, hL⟩ : ∃ L, L = r.length := ⟨_, rfl⟩
    rw [← hL] at hsz KA ⊢
    obtain ⟨z, hz⟩ : ∃ z : Nat, z = if L = 6 ∧ Prs.digs r = true then Prs.dval 0 r else 0 := ⟨_, rfl⟩
    rw [← hz]
    have HZ := Lib.hid hz
    clear hL hz
    clear hpre hpd
    go_enter Tryz.func28, Tryz.ntmps28
    go_wp2_with fail
    refine KC.out.mono ?_
    rintro e w1 ⟨rfl, rfl⟩
    by_cases h6 : L = 6
    · subst h6
      rcases b with _ | _
      · have hd : Prs.digs r = true := by have := HB.out; revert this; cases Prs.digs r <;> simp
        have KA2 := Lib.hid (KA.out hd rfl)
        have hz2 : z = Prs.dval 0 r := by rw [HZ.out, if_pos ⟨rfl, hd⟩]
        rw [← hz2] at KA2
        clear hd hz2 KA HZ
        go_wp2_with fail
        refine (KF.out _).mono ?_
        rintro e w2 ⟨rfl, hb2⟩
        have HB2 := Lib.hid hb2
        clear hb2
        go_wp2_with fail
        refine (KA2.out _).mono ?_
        rintro e w3 ⟨rfl, hb3⟩
        have HB3 := Lib.hid (HB2.out.trans (hb3.mono HB2.out.size))
        clear hb3
        go_wp2_with fail
        go_ret
        exact ⟨rfl, HB3.out⟩
      · have hd : Prs.digs r = false := by have := HB.out; revert this; cases Prs.digs r <;> simp
        have hz2 : z = 0 := by rw [HZ.out, if_neg (by simp [hd])]
        subst hz2
        clear hd KA HZ
        go_wp2_with fail
        refine (KF.out _).mono ?_
        rintro e w2 ⟨rfl, hb2⟩
        have HB2 := Lib.hid hb2
        clear hb2
        go_wp2_with fail
        go_ret
        exact ⟨rfl, HB2.out⟩
    · have e1 : ((L : Int) != 6) = true := by simp; omega
      have e2 : ((L : Int) == 6) = false := by simp; omega
      have hz2 : z = 0 := by rw [HZ.out, if_neg (fun h => h6 h.1)]
      subst hz2
      clear h6 KA HZ
      go_wp2_with fail
      go_ret
      exact ⟨rfl, Below.refl _ _⟩
  · rw [nb_no p l h, ← hpre]
    have KC := Lib.hid (cut_any pre ⟨l.toArray⟩ ⟨l.toArray⟩ hp4 false (by
      rw [hpd]
      cases hq : Lib.hasPrefix l p with
      | false => first | exact hq | rfl
      | true => exact absurd ((hasPre_iff p l).1 hq) h) (fun h => by cases h) w)
    simp only [Bool.false_eq_true, if_false] at KC
    obtain ⟨S, hS⟩ : ∃ S, S = (⟨l.toArray⟩ : ByteArray) := ⟨_, rfl⟩
    rw [← hS] at KC ⊢
    clear hS h
    clear hpre hpd
    go_enter Tryz.func28, Tryz.ntmps28
    go_wp2_with fail
    refine KC.out.mono ?_
    rintro e w1 ⟨rfl, rfl⟩
    go_wp2_with fail
    go_ret
    exact ⟨rfl, Below.refl _ _⟩
end Ver
end Go.Proofs.YtekbdedpombgcaaGreatDoor
