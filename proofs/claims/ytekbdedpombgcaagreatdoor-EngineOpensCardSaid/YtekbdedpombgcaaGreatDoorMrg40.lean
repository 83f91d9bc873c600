/- Parts of the proof, one behind the other: Contracts of the log: a file's number. -/
import Derived.Test.YtekbdedpombgcaaGreatDoorMrg39
import Derived.Test.YtekbdedpombgcaaGreatDoorMrg32
import Derived.Test.YtekbdedpombgcaaGreatDoorMrg33
namespace Go.Proofs.YtekbdedpombgcaaGreatDoor
open Go.RowKit

namespace Wal
def pre : ByteArray := ⟨#[108, 111, 103, 45]⟩
theorem hasPre_iff (l : List UInt8) : Lib.hasPrefix l [108, 111, 103, 45] = true ↔ ∃ r, l = [108, 111, 103, 45] ++ r := by
  unfold Lib.hasPrefix
  rw [List.isPrefixOf_iff_prefix]
  exact ⟨fun ⟨r, h⟩ => ⟨r, h.symm⟩, fun ⟨r, h⟩ => ⟨r, h.symm⟩⟩
set_option maxRecDepth 100000 in
theorem scut_any (S R : ByteArray) (q : Bool) (hq : Lib.hasPrefix S.data.toList pre.data.toList = q) (hR : q = true → S.extract 4 S.size = R ∧ 4 ≤ S.size) (w : World) :
    Calls Tryz.prog 134 #[.string S, .string pre] w fun e w' => e = .returned (.tuple #[.string (if q = true then R else S), .bool q]) ∧ w' = w := by
  have K := fun w => Tryz.stringslite_HasPrefix S pre w
  rw [hq] at K
  have HK := Lib.hid K
  have hp4 : pre.size = 4 := rfl
  clear K hq
  obtain ⟨P, hP⟩ : ∃ P, P = pre := ⟨_, rfl⟩
  rw [← hP] at HK hp4 ⊢
  clear hP
  rcases q with _ | _
  · clear hR
    go_enter Tryz.func134, Tryz.ntmps134
    go_wp2_with fail
    refine (HK.out w).mono ?_
    rintro e w1 ⟨rfl, rfl⟩
    go_wp2_with fail
    go_ret2
    exact ⟨rfl, rfl⟩
  · obtain ⟨hR, hS4⟩ := hR rfl
    go_enter Tryz.func134, Tryz.ntmps134
    go_wp2_with fail
    refine (HK.out w).mono ?_
    rintro e w1 ⟨rfl, rfl⟩
    go_wp2_with fail
    go_ret2
    exact ⟨rfl, rfl⟩
set_option maxRecDepth 100000 in
theorem cut_any (S R : ByteArray) (q : Bool) (hq : Lib.hasPrefix S.data.toList pre.data.toList = q) (hR : q = true → S.extract 4 S.size = R ∧ 4 ≤ S.size) (w : World) :
    Calls Tryz.prog 65 #[.string S, .string pre] w fun e w' => e = .returned (.tuple #[.string (if q = true then R else S), .bool q]) ∧ w' = w := by
  have HK := Lib.hid (scut_any S R q hq hR w)
  obtain ⟨P, hP⟩ : ∃ P, P = pre := ⟨_, rfl⟩
  obtain ⟨T, hT⟩ : ∃ T, T = (if q = true then R else S) := ⟨_, rfl⟩
  rw [← hP, ← hT] at HK ⊢
  clear hP hT hq hR
  go_enter Tryz.func65, Tryz.ntmps65
  go_wp2_with fail
  refine HK.out.mono ?_
  rintro e w1 ⟨rfl, rfl⟩
  go_wp2_with fail
  go_ret2
  exact ⟨rfl, rfl⟩
/-- A file's number; 0: it is none of the log. -/
def numbered (s : List UInt8) : Nat := if s.length = 10 ∧ s.take 4 = [108, 111, 103, 45] ∧ Prs.digs (s.drop 4) = true then Prs.dval 0 (s.drop 4) else 0
theorem ret_b {a b : Bool} (h : a = b) : Ending.returned (.bool a) = .returned (.bool b) := by rw [h]
theorem pred6 (w : World) : PredAt Tryz.prog 178 #[] encR Prs.odd w := fun W r _ => by
  unfold FnGives
  by_cases h1 : (r : Int) < 48
  · have e : Prs.odd r = true := by unfold Prs.odd; simp; omega
    have E := Lib.hid e; clear e
    go_enter Tryz.func178, Tryz.ntmps178
    go_wp2
    go_ret
    exact ⟨ret_b E.out.symm, 0, rfl⟩
  · by_cases h2 : 57 < (r : Int)
    · have e : Prs.odd r = true := by unfold Prs.odd; simp; omega
      have E := Lib.hid e; clear e
      go_enter Tryz.func178, Tryz.ntmps178
      go_wp2
      go_ret
      exact ⟨ret_b E.out.symm, 0, rfl⟩
    · have e : Prs.odd r = false := by unfold Prs.odd; simp; omega
      have E := Lib.hid e; clear e
      go_enter Tryz.func178, Tryz.ntmps178
      go_wp2
      go_ret
      exact ⟨ret_b E.out.symm, 0, rfl⟩
theorem contains6 (x : ByteArray) (b : Bool) (hb : b = !Prs.digs x.data.toList) (w : World) :
    Calls Tryz.prog 66 #[.string x, .func (.func 178) #[] #[]] w fun e w' => e = .returned (.bool b) ∧ Below w.heap.size w w' := by
  refine (Tryz.strings_ContainsFunc 178 #[] (enters_of Tryz.func178 (by kernel_rfl) rfl) Prs.odd x w (pred6 w)).mono ?_
  rintro e w' ⟨rfl, hb2⟩
  exact ⟨by rw [Prs.odd_digs, hb], hb2⟩
theorem atoi6 (x : ByteArray) (n : Nat) (hn : n = Prs.dval 0 x.data.toList) (hd : Prs.digs x.data.toList = true) (h0 : 0 < x.size) (h4 : x.size ≤ 18) (w : World) :
    Calls Tryz.prog 68 #[.string x] w fun e w' => e = .returned (.tuple #[.int .i64 (n : Int), .nilIface]) ∧ Below w.heap.size w w' := by
  refine (Tryz.strconv_Atoi x (n : Int) h4 (by rw [Prs.atoi_digs hd (by simpa using h0), hn]) w).mono ?_
  rintro e w' ⟨rfl, t, rfl⟩
  exact ⟨rfl, ⟨rfl, rfl, rfl, by rw [Lib.bytesWorld_size]; omega, fun i hi => Lib.bytesWorld_at_old w 5 t i hi⟩⟩
theorem numbered_no (l : List UInt8) (h : ¬ ∃ r, l = [108, 111, 103, 45] ++ r) : numbered l = 0 := by
  unfold numbered
  rw [if_neg]
  rintro ⟨_, h2, _⟩
  exact h ⟨l.drop 4, by rw [← h2, List.take_append_drop]⟩
theorem numbered_pre (r : List UInt8) : numbered ([108, 111, 103, 45] ++ r) = if r.length = 6 ∧ Prs.digs r = true then Prs.dval 0 r else 0 := by
  unfold numbered
  have e1 : ([108, 111, 103, 45] ++ r : List UInt8).take 4 = [108, 111, 103, 45] := rfl
  have e2 : ([108, 111, 103, 45] ++ r : List UInt8).drop 4 = r := rfl
  rw [e1, e2]
  have e3 : (([108, 111, 103, 45] ++ r : List UInt8).length = 10) = (r.length = 6) := by simp
  simp only [e3, true_and]
set_option maxHeartbeats 1000000 in
set_option maxRecDepth 100000 in
theorem numbered_any (l : List UInt8) (w : World) : Calls Tryz.prog 100 #[.string ⟨l.toArray⟩] w fun e w' => e = .returned (.int .i64 (numbered l : Int)) ∧ Below w.heap.size w w' := by
  by_cases h : ∃ r, l = [108, 111, 103, 45] ++ r
  · obtain ⟨r, rfl⟩ := h
    rw [numbered_pre]
    have KC := Lib.hid (cut_any ⟨([108, 111, 103, 45] ++ r).toArray⟩ ⟨r.toArray⟩ true ((hasPre_iff _).2 ⟨r, rfl⟩) (fun _ => by
      refine ⟨?_, by simp [ByteArray.size]⟩
      apply ByteArray.ext
      simp [ByteArray.size]) w)
    simp only [if_true] at KC
    obtain ⟨b, hb⟩ : ∃ b, b = !Prs.digs r := ⟨_, rfl⟩
    have KF := Lib.hid (fun w => contains6 ⟨r.toArray⟩ b hb w)
    have hsz : (⟨r.toArray⟩ : ByteArray).size = r.length := by simp [ByteArray.size]
    have KA := Lib.hid (fun (hd : Prs.digs r = true) (h6 : r.length = 6) => atoi6 ⟨r.toArray⟩ (Prs.dval 0 r) rfl hd (by omega) (by omega))
    obtain ⟨S, hS⟩ : ∃ S, S = (⟨([108, 111, 103, 45] ++ r).toArray⟩ : ByteArray) := ⟨_, rfl⟩
    obtain ⟨R, hR⟩ : ∃ R, R = (⟨r.toArray⟩ : ByteArray) := ⟨_, rfl⟩
    rw [← hS, ← hR] at KC
    rw [← hR] at KF KA hsz
    rw [← hS]
    have HB := Lib.hid hb
    clear hS hR hb
    obtain ⟨L, hL⟩ : ∃ L, L = r.length := ⟨_, rfl⟩
    rw [← hL] at hsz KA ⊢
    obtain ⟨z, hz⟩ : ∃ z : Nat, z = if L = 6 ∧ Prs.digs r = true then Prs.dval 0 r else 0 := ⟨_, rfl⟩
    rw [← hz]
    have HZ := Lib.hid hz
    clear hL hz
    have PRE : (⟨#[108, 111, 103, 45]⟩ : ByteArray) = pre := rfl
    go_enter Tryz.func100, Tryz.ntmps100
    go_wp2_with fail
    refine KC.out.mono ?_
    rintro e w1 ⟨rfl, rfl⟩
    by_cases h6 : L = 6
    · subst h6
      rcases b with _ | _
      · have hd : Prs.digs r = true := by have := HB.out; revert this; cases Prs.digs r <;> simp
        have KA2 := Lib.hid (KA.out hd rfl)
        have hz2 : z = Prs.dval 0 r := by rw [HZ.out, if_pos ⟨rfl, hd⟩]
        rw [← hz2] at KA2
        clear hd hz2 KA HZ
        go_wp2_with fail
        refine (KF.out _).mono ?_
        rintro e w2 ⟨rfl, hb2⟩
        have HB2 := Lib.hid hb2
        clear hb2
        go_wp2_with fail
        refine (KA2.out _).mono ?_
        rintro e w3 ⟨rfl, hb3⟩
        have HB3 := Lib.hid (HB2.out.trans (hb3.mono HB2.out.size))
        clear hb3
        go_wp2_with fail
        go_ret
        exact ⟨rfl, HB3.out⟩
      · have hd : Prs.digs r = false := by have := HB.out; revert this; cases Prs.digs r <;> simp
        have hz2 : z = 0 := by rw [HZ.out, if_neg (by simp [hd])]
        subst hz2
        clear hd KA HZ
        go_wp2_with fail
        refine (KF.out _).mono ?_
        rintro e w2 ⟨rfl, hb2⟩
        have HB2 := Lib.hid hb2
        clear hb2
        go_wp2_with fail
        go_ret
        exact ⟨rfl, HB2.out⟩
    · have e1 : ((L : Int) != 6) = true := by simp; omega
      have e2 : ((L : Int) == 6) = false := by simp; omega
      have hz2 : z = 0 := by rw [HZ.out, if_neg (fun h => h6 h.1)]
      subst hz2
      clear h6 KA HZ
      go_wp2_with fail
      go_ret
      exact ⟨rfl, Below.refl _ _⟩
  · rw [numbered_no l h]
    have KC := Lib.hid (cut_any ⟨l.toArray⟩ ⟨l.toArray⟩ false (by
      cases hp : Lib.hasPrefix l [108, 111, 103, 45] with
      | false => exact hp
      | true => exact absurd ((hasPre_iff l).1 hp) h) (fun h => by cases h) w)
    simp only [Bool.false_eq_true, if_false] at KC
    obtain ⟨S, hS⟩ : ∃ S, S = (⟨l.toArray⟩ : ByteArray) := ⟨_, rfl⟩
    rw [← hS] at KC ⊢
    clear hS h
    have PRE : (⟨#[108, 111, 103, 45]⟩ : ByteArray) = pre := rfl
    go_enter Tryz.func100, Tryz.ntmps100
    go_wp2_with fail
    refine KC.out.mono ?_
    rintro e w1 ⟨rfl, rfl⟩
    go_wp2_with fail
    go_ret
    exact ⟨rfl, Below.refl _ _⟩
end Wal
end Go.Proofs.YtekbdedpombgcaaGreatDoor
