/- Parts of the proof, one behind the other: words: what is left of a line; contracts of next, number, day, amount.; The names of kinds of lines, of items; the contract of words.kind at both.; strings.Lines: its plain law; the contract of the closure that it hands back. -/
import Derived.Test.YtlmejpkngnilcaaGreatDoorMrg19
import Derived.Test.YtlmejpkngnilcaaGreatDoorMrg26
import Derived.Test.YtlmejpkngnilcaaGreatDoorMrg02
import Derived.Test.YtlmejpkngnilcaaGreatDoorMrg27
import Derived.Lib.AtoiAllCases
import Derived.Test.YtlmejpkngnilcaaGreatDoorMrg03
namespace Go.Proofs.YtlmejpkngnilcaaGreatDoor
open Go.RowKit

def Sc (s : ByteArray) : List Value := [.string s]
/-- The words that are left, and whether something was amiss: in the box at block g. -/
structure Wd (w : World) (g : Nat) (left : List ByteArray) (am : Bool) : Prop where
  box : ∃ A, w.heap[g]? = some (.cells #[.slice A left.length left.length, .bool am] 71) ∧ RdS Sc 1 w g A left
theorem Wd.below {w w' : World} {g D : Nat} {left : List ByteArray} {am : Bool} (h : Wd w g left am) (hb : Below D w w') (hD : g < D) : Wd w' g left am := by
  obtain ⟨A, h1, h2⟩ := h.box
  exact ⟨A, (hb.block g hD).trans h1, h2.below hb (Nat.le_of_lt hD)⟩
theorem Wd.lt {w : World} {g : Nat} {left : List ByteArray} {am : Bool} (h : Wd w g left am) : g < w.heap.size := by
  obtain ⟨A, h1, h2⟩ := h.box
  exact (Array.getElem?_eq_some_iff.1 h1).1
theorem two_set0 {W : World} {B : Nat} {u v x : Value} {t : TypeId} (h : W.heap[B]? = some (.cells #[u, v] t)) : (W.setCell ⟨B, 0, none⟩ x).heap[B]? = some (.cells #[x, v] t) := by
  obtain ⟨hlt, hk⟩ := Array.getElem?_eq_some_iff.1 h
  show (W.heap.modify B _)[B]? = _
  rw [Array.getElem?_eq_getElem (by rw [Array.size_modify]; exact hlt), Array.getElem_modify_self, hk]
  rfl
theorem two_set1 {W : World} {B : Nat} {u v x : Value} {t : TypeId} (h : W.heap[B]? = some (.cells #[u, v] t)) : (W.setCell ⟨B, 1, none⟩ x).heap[B]? = some (.cells #[u, x] t) := by
  obtain ⟨hlt, hk⟩ := Array.getElem?_eq_some_iff.1 h
  show (W.heap.modify B _)[B]? = _
  rw [Array.getElem?_eq_getElem (by rw [Array.size_modify]; exact hlt), Array.getElem_modify_self, hk]
  rfl
theorem Wd.set1 {w : World} {g : Nat} {left : List ByteArray} {am : Bool} (h : Wd w g left am) (b : Bool) : Wd (w.setCell ⟨g, 1, none⟩ (.bool b)) g left b := by
  obtain ⟨A, h1, h2⟩ := h.box
  exact ⟨A, two_set1 h1, h2.below ((Below.refl g w).setCell (Nat.le_refl _) _) (Nat.le_refl _)⟩
theorem Wd.cells {w : World} {g : Nat} {left : List ByteArray} {am : Bool} (h : Wd w g left am) : (∃ A, w.cell? ⟨g, 0, none⟩ = some (.slice A left.length left.length) ∧ RdS Sc 1 w g A left ∧ w.heap[g]? = some (.cells #[.slice A left.length left.length, .bool am] 71)) ∧ w.cell? ⟨g, 1, none⟩ = some (.bool am) ∧ w.frozen? ⟨g, 0, none⟩ = false ∧ w.frozen? ⟨g, 1, none⟩ = false := by
  obtain ⟨A, h1, h2⟩ := h.box
  exact ⟨⟨A, by simp [World.cell?, h1], h2, h1⟩, by simp [World.cell?, h1], by simp [World.frozen?, h1], by simp [World.frozen?, h1]⟩
theorem Wd.nxt {w : World} {g : Nat} {r : List ByteArray} {am : Bool} {A A' : Option Addr} {n k : Nat} (h : w.heap[g]? = some (.cells #[.slice A n k, .bool am] 71)) (hr : RdS Sc 1 w g A' r) : Wd (w.setCell ⟨g, 0, none⟩ (.slice A' r.length r.length)) g r am :=
  ⟨A', two_set0 h, hr.below ((Below.refl g w).setCell (Nat.le_refl g) _) (Nat.le_refl _)⟩
theorem below_set (g : Nat) (w : World) (j : Nat) (v : Value) : Below g w (w.setCell ⟨g, j, none⟩ v) := (Below.refl g w).setCell (p := ⟨g, j, none⟩) (Nat.le_refl g) _
def hd (left : List ByteArray) : ByteArray := left.headD ⟨#[]⟩
set_option maxHeartbeats 2000000 in
set_option maxRecDepth 100000 in
theorem next_any (g : Nat) (left : List ByteArray) (am : Bool) (w : World) (hn : left.length ≤ 1000000) (h : Wd w g left am) :
    Calls Tryz.prog 31 #[.pointer (some ⟨g, 0, none⟩)] w fun e w' => e = .returned (.string (hd left)) ∧ Wd w' g left.tail (am || left.isEmpty) ∧ Below g w w' := by
  rcases left with _ | ⟨s, r⟩
  · obtain ⟨⟨A, q0, hr, hbx⟩, q1, f0, f1⟩ := h.cells
    have H := Lib.hid h
    clear h hbx hr
    simp only [List.length_nil] at q0
    go_enter Tryz.func31, Tryz.ntmps31
    go_wp2_with fail
    go_ret
    exact ⟨rfl, by simpa using H.out.set1 true, below_set _ _ _ _⟩
  · obtain ⟨⟨A, q0, hr, hbx⟩, q1, f0, f1⟩ := h.cells
    have HBX := Lib.hid hbx
    have HR := Lib.hid hr
    obtain ⟨b, off, rfl, hb, hc⟩ := RdS.row (f := Sc) (n := 1) (fun _ => rfl) (by omega) hr (by simp)
    have c0 := hc 0 (by simp) 0 (.string s) rfl
    simp only [Nat.zero_mul, Nat.add_zero] at c0
    obtain ⟨n, hN⟩ : ∃ n, n = r.length := ⟨_, rfl⟩
    have hn2 : n ≤ 1000000 := by simp at hn; omega
    simp only [List.length_cons] at q0
    rw [← hN] at q0
    have HN := Lib.hid hN
    clear hc hr hN hn h hbx
    go_enter Tryz.func31, Tryz.ntmps31
    go_wp2_with fail
    · have hr0 : r = [] := by have := HN.out; apply List.eq_nil_of_length_eq_zero; omega
      subst hr0
      go_ret
      refine ⟨rfl, ?_, below_set _ _ _ _⟩
      have h1 := Wd.nxt (r := []) (A' := some ⟨b, off, none⟩) HBX.out RdS.nil
      exact h1
    · have hnz : ¬ r.length = 0 := by rw [← HN.out]; assumption
      have hd1 := RdS.drop (f := Sc) (n := 1) (k := 1) (cap := (s :: r).length) (fun _ => rfl) HR.out (by simp) (Nat.le_refl _)
      rw [if_neg (by rw [List.length_cons]; omega)] at hd1
      have ea : (some (⟨b, off, none⟩ : Addr)).map (·.add (1 * 1)) = some ⟨b, off + 1, none⟩ := by
        show some ((⟨b, off, none⟩ : Addr).add 1) = _
        unfold Addr.add; simp
      rw [ea] at hd1
      have hN2 := HN.out
      subst hN2
      go_ret
      exact ⟨rfl, Wd.nxt HBX.out hd1, below_set _ _ _ _⟩
theorem hd_size {left : List ByteArray} {N : Nat} (h : ∀ s ∈ left, s.size ≤ N) : (hd left).size ≤ N := by
  cases left with
  | nil => exact Nat.zero_le _
  | cons s r => exact h s (by simp)
/-- What takes a word, which is to be read by R. -/
def TakesW (R : ByteArray → Int → Prop) (g : Nat) (left : List ByteArray) (am : Bool) (w : World) (e : Ending) (w' : World) : Prop :=
  ∃ v am', e = .returned (.int .i64 v) ∧ Wd w' g left.tail am' ∧ Below g w w' ∧ (am' = false → am = false ∧ left ≠ [] ∧ R (hd left) v) ∧ (am = false → left ≠ [] → (∃ n, R (hd left) n) → am' = false)
theorem TakesW.mk {R : ByteArray → Int → Prop} {g : Nat} {left : List ByteArray} {am am1 bad : Bool} {w w1 w' : World} {v : Int} (h1 : am1 = (am || left.isEmpty)) (hw : Wd w1 g left.tail am1) (hb : Below g w w1)
    (hv : bad = false → R (hd left) v) (hn : (∃ n, R (hd left) n) → bad = false) (he : w' = w1.setCell ⟨g, 1, none⟩ (.bool (am1 || bad))) : TakesW R g left am w (.returned (.int .i64 v)) w' := by
  refine ⟨v, am1 || bad, rfl, he ▸ hw.set1 _, he ▸ hb.setCell (p := ⟨g, 1, none⟩) (Nat.le_refl g) _, fun h => ?_, fun ha hl hr => ?_⟩
  · have h2 : am1 = false ∧ bad = false := by cases am1 <;> cases bad <;> simp_all
    refine ⟨?_, ?_, hv h2.2⟩
    · cases am
      · rfl
      · rw [h1] at h2; simp at h2
    · rintro rfl
      rw [h1] at h2; simp at h2
  · rw [hn hr, h1, ha]
    cases left with
    | nil => exact absurd rfl hl
    | cons s r => rfl
def numR (s : ByteArray) (n : Int) : Prop := Lib.atoiAll s.data.toList = .ok n
def dayR (s : ByteArray) (n : Int) : Prop := ParseOf s.data.toList (.returned (.tuple #[.int .i64 n, .int .i64 0]))
def amtR (s : ByteArray) (n : Int) : Prop := amtP s.data.toList = some n
theorem ErrsM_below {w w' : World} {g : Nat} (h : Errs w) (hb : Below g w w') (hs : 0 < g) (hr : 1 < g) : Errs w' := by
  obtain ⟨v, h1, h2⟩ := h.s
  obtain ⟨u, h3, h4⟩ := h.r
  exact ⟨⟨v, (hb.cell hs).trans h1, h2⟩, ⟨u, (hb.cell hr).trans h3, h4⟩⟩
set_option maxHeartbeats 2000000 in
set_option maxRecDepth 100000 in
theorem number_any (g : Nat) (left : List ByteArray) (am : Bool) (w : World) (hn : left.length ≤ 1000000) (hz : ∀ s ∈ left, s.size ≤ 1000000) (h : Wd w g left am) (he : ∀ w', Below g w w' → Errs w') :
    Calls Tryz.prog 32 #[.pointer (some ⟨g, 0, none⟩)] w (TakesW numR g left am w) := by
  have KN := Lib.hid (next_any g left am w hn h)
  obtain ⟨x, hx⟩ : ∃ x, x = hd left := ⟨_, rfl⟩
  have hxs : x.size ≤ 1000000 := by rw [hx]; exact hd_size hz
  obtain ⟨am1, ham⟩ : ∃ b, b = (am || left.isEmpty) := ⟨_, rfl⟩
  rw [← hx, ← ham] at KN
  have HX := Lib.hid hx; have HAM := Lib.hid ham; have HE := Lib.hid he; have HXS := Lib.hid hxs
  clear h hn hz hx ham he hxs
  go_enter Tryz.func32, Tryz.ntmps32
  go_wp2_with fail
  refine KN.out.mono ?_
  rintro e w1 ⟨rfl, hw1, hb1⟩
  have HW1 := Lib.hid hw1; have HB1 := Lib.hid hb1
  have hlt := hw1.lt
  clear hw1 hb1 KN
  rcases hp : Lib.atoiAll x.data.toList with n | _ | _
  · have K := Lib.hid (Tryz.strconv_Atoi_ok x (by have := HXS.out; omega) n hp w1)
    have HP := Lib.hid hp
    clear hp
    go_wp2_with fail
    refine K.out.mono ?_
    rintro e w2 ⟨rfl, hw2⟩
    have HB2 : Hid (Below w1.heap.size w1 w2) := Lib.hid (by
      rcases hw2 with h | ⟨t, h⟩
      · rw [h]; exact Below.refl _ _
      · rw [h]; exact below_bytes _ _ _)
    clear hw2 K
    have HW2 : Hid (Wd w2 g left.tail am1) := Lib.hid (HW1.out.below HB2.out hlt)
    have HB : Hid (Below g w w2) := Lib.hid (HB1.out.trans (HB2.out.mono (by omega)))
    obtain ⟨_, q1, _, f1⟩ := HW2.out.cells
    cases am1
    · go_wp2_with fail
      go_ret
      exact TakesW.mk (bad := false) HAM.out HW2.out HB.out (fun _ => by rw [← HX.out]; exact HP.out) (fun _ => rfl) rfl
    · go_wp2_with fail
      go_ret
      exact TakesW.mk (bad := false) HAM.out HW2.out HB.out (fun _ => by rw [← HX.out]; exact HP.out) (fun _ => rfl) rfl
  · obtain ⟨v, h1, h2⟩ := (HE.out w1 HB1.out).s
    have K := Lib.hid (Tryz.strconv_Atoi_syntax x (by have := HXS.out; omega) hp v w1 h1 h2)
    have HP := Lib.hid hp
    clear hp h1 h2
    go_wp2_with fail
    refine K.out.mono ?_
    rintro e w2 ⟨N, rfl, _, _, hb2⟩
    have HW2 : Hid (Wd w2 g left.tail am1) := Lib.hid (HW1.out.below hb2 hlt)
    have HB : Hid (Below g w w2) := Lib.hid (HB1.out.trans (hb2.mono (by omega)))
    obtain ⟨_, q1, _, f1⟩ := HW2.out.cells
    clear hb2 K
    cases am1
    · go_wp2_with fail
      go_ret
      exact TakesW.mk (bad := true) HAM.out HW2.out HB.out (fun h => by cases h) (fun ⟨n, hn⟩ => by unfold numR at hn; rw [← HX.out, HP.out] at hn; cases hn) rfl
    · go_wp2_with fail
      go_ret
      exact TakesW.mk (bad := true) HAM.out HW2.out HB.out (fun h => by cases h) (fun ⟨n, hn⟩ => by unfold numR at hn; rw [← HX.out, HP.out] at hn; cases hn) rfl
  · obtain ⟨v, h1, h2⟩ := (HE.out w1 HB1.out).r
    have K := Lib.hid (Tryz.strconv_Atoi_range x (by have := HXS.out; omega) hp v w1 h1 h2)
    have HP := Lib.hid hp
    clear hp h1 h2
    go_wp2_with fail
    refine K.out.mono ?_
    rintro e w2 ⟨N, rfl, _, _, hb2⟩
    have HW2 : Hid (Wd w2 g left.tail am1) := Lib.hid (HW1.out.below hb2 hlt)
    have HB : Hid (Below g w w2) := Lib.hid (HB1.out.trans (hb2.mono (by omega)))
    obtain ⟨_, q1, _, f1⟩ := HW2.out.cells
    clear hb2 K
    obtain ⟨V, hV⟩ : ∃ V, V = Lib.atoiSat x.data.toList := ⟨_, rfl⟩
    rw [← hV]
    clear hV
    cases am1
    · go_wp2_with fail
      go_ret
      exact TakesW.mk (bad := true) HAM.out HW2.out HB.out (fun h => by cases h) (fun ⟨n, hn⟩ => by unfold numR at hn; rw [← HX.out, HP.out] at hn; cases hn) rfl
    · go_wp2_with fail
      go_ret
      exact TakesW.mk (bad := true) HAM.out HW2.out HB.out (fun h => by cases h) (fun ⟨n, hn⟩ => by unfold numR at hn; rw [← HX.out, HP.out] at hn; cases hn) rfl
set_option maxHeartbeats 2000000 in
set_option maxRecDepth 100000 in
theorem wday_any (g : Nat) (left : List ByteArray) (am : Bool) (w : World) (hn : left.length ≤ 1000000) (hz : ∀ s ∈ left, s.size ≤ 1000000) (h : Wd w g left am) (hm : ∀ w', Below g w w' → HasMax w') :
    Calls Tryz.prog 33 #[.pointer (some ⟨g, 0, none⟩)] w (TakesW dayR g left am w) := by
  have KN := Lib.hid (next_any g left am w hn h)
  obtain ⟨x, hx⟩ : ∃ x, x = hd left := ⟨_, rfl⟩
  have hxs : x.size ≤ 1000000 := by rw [hx]; exact hd_size hz
  obtain ⟨am1, ham⟩ : ∃ b, b = (am || left.isEmpty) := ⟨_, rfl⟩
  rw [← hx, ← ham] at KN
  have HX := Lib.hid hx; have HAM := Lib.hid ham; have HM := Lib.hid hm; have HXS := Lib.hid hxs
  clear h hn hz hx ham hm hxs
  go_enter Tryz.func33, Tryz.ntmps33
  go_wp2_with fail
  refine KN.out.mono ?_
  rintro e w1 ⟨rfl, hw1, hb1⟩
  have HW1 := Lib.hid hw1; have HB1 := Lib.hid hb1
  have hlt := hw1.lt
  clear hw1 hb1 KN
  have K := Lib.hid (parse_any x w1 (by have := HXS.out; omega) (HM.out w1 HB1.out))
  go_wp2_with fail
  refine K.out.mono ?_
  rintro e w2 ⟨hp, hb2⟩
  have HW2 : Hid (Wd w2 g left.tail am1) := Lib.hid (HW1.out.below hb2 hlt)
  have HB : Hid (Below g w w2) := Lib.hid (HB1.out.trans (hb2.mono (by omega)))
  obtain ⟨_, q1, _, f1⟩ := HW2.out.cells
  have HP := Lib.hid hp
  clear hb2 K
  rcases hp with ⟨p, q, r, _, _, rfl⟩ | ⟨_, rfl⟩
  · obtain ⟨V, hV⟩ : ∃ V, V = Cal.num (Prs.dval 0 p : Nat) (Prs.dval 0 q : Nat) (Prs.dval 0 r : Nat) := ⟨_, rfl⟩
    rw [← hV] at HP ⊢
    clear hV
    cases am1
    · go_wp2_with fail
      go_ret
      exact TakesW.mk (bad := false) HAM.out HW2.out HB.out (fun _ => by rw [← HX.out]; exact HP.out) (fun _ => rfl) rfl
    · go_wp2_with fail
      go_ret
      exact TakesW.mk (bad := false) HAM.out HW2.out HB.out (fun _ => by rw [← HX.out]; exact HP.out) (fun _ => rfl) rfl
  · have HNO : Hid (¬ ∃ n, dayR (hd left) n) := Lib.hid (fun ⟨n, hn⟩ => by
      unfold dayR at hn
      rw [← HX.out] at hn
      have := parseOf_same HP.out hn
      simp at this)
    cases am1
    · go_wp2_with fail
      go_ret
      exact TakesW.mk (bad := true) HAM.out HW2.out HB.out (fun h => by cases h) (fun h => absurd h HNO.out) rfl
    · go_wp2_with fail
      go_ret
      exact TakesW.mk (bad := true) HAM.out HW2.out HB.out (fun h => by cases h) (fun h => absurd h HNO.out) rfl
set_option maxHeartbeats 2000000 in
set_option maxRecDepth 100000 in
theorem wamount_any (g : Nat) (left : List ByteArray) (am : Bool) (w : World) (hn : left.length ≤ 1000000) (hz : ∀ s ∈ left, s.size ≤ 1000000) (h : Wd w g left am) (ht : ∀ w', Below g w w' → Tab w') (he : ∀ w', Below g w w' → Errs w') :
    Calls Tryz.prog 34 #[.pointer (some ⟨g, 0, none⟩)] w (TakesW amtR g left am w) := by
  have KN := Lib.hid (next_any g left am w hn h)
  obtain ⟨x, hx⟩ : ∃ x, x = hd left := ⟨_, rfl⟩
  have hxs : x.size ≤ 1000000 := by rw [hx]; exact hd_size hz
  obtain ⟨am1, ham⟩ : ∃ b, b = (am || left.isEmpty) := ⟨_, rfl⟩
  rw [← hx, ← ham] at KN
  have HX := Lib.hid hx; have HAM := Lib.hid ham; have HE := Lib.hid he; have HT := Lib.hid ht; have HXS := Lib.hid hxs
  clear h hn hz hx ham he ht hxs
  go_enter Tryz.func34, Tryz.ntmps34
  go_wp2_with fail
  refine KN.out.mono ?_
  rintro e w1 ⟨rfl, hw1, hb1⟩
  have HW1 := Lib.hid hw1; have HB1 := Lib.hid hb1
  have hlt := hw1.lt
  clear hw1 hb1 KN
  have K := Lib.hid (amount_any x x.data.toList rfl HXS.out w1 (HT.out w1 HB1.out) (HE.out w1 HB1.out))
  rcases hp : amtP x.data.toList with _ | n
  · rw [hp] at K
    have HP := Lib.hid hp
    clear hp
    have HNO : Hid (¬ ∃ n, amtR (hd left) n) := Lib.hid (fun ⟨n, hn⟩ => by
      unfold amtR at hn
      rw [← HX.out, HP.out] at hn
      cases hn)
    go_wp2_with fail
    refine K.out.mono ?_
    rintro e w2 ⟨rfl, hb2⟩
    have HW2 : Hid (Wd w2 g left.tail am1) := Lib.hid (HW1.out.below hb2 hlt)
    have HB : Hid (Below g w w2) := Lib.hid (HB1.out.trans (hb2.mono (by omega)))
    obtain ⟨_, q1, _, f1⟩ := HW2.out.cells
    clear hb2 K
    simp only [amtV]
    cases am1
    · go_wp2_with fail
      go_ret
      exact TakesW.mk (bad := true) HAM.out HW2.out HB.out (fun h => by cases h) (fun h => absurd h HNO.out) rfl
    · go_wp2_with fail
      go_ret
      exact TakesW.mk (bad := true) HAM.out HW2.out HB.out (fun h => by cases h) (fun h => absurd h HNO.out) rfl
  · rw [hp] at K
    have HP := Lib.hid hp
    clear hp
    go_wp2_with fail
    refine K.out.mono ?_
    rintro e w2 ⟨rfl, hb2⟩
    have HW2 : Hid (Wd w2 g left.tail am1) := Lib.hid (HW1.out.below hb2 hlt)
    have HB : Hid (Below g w w2) := Lib.hid (HB1.out.trans (hb2.mono (by omega)))
    obtain ⟨_, q1, _, f1⟩ := HW2.out.cells
    clear hb2 K
    simp only [amtV]
    cases am1
    · go_wp2_with fail
      go_ret
      exact TakesW.mk (bad := false) HAM.out HW2.out HB.out (fun _ => by unfold amtR; rw [← HX.out]; exact HP.out) (fun _ => rfl) rfl
    · go_wp2_with fail
      go_ret
      exact TakesW.mk (bad := false) HAM.out HW2.out HB.out (fun _ => by unfold amtR; rw [← HX.out]; exact HP.out) (fun _ => rfl) rfl
end Go.Proofs.YtlmejpkngnilcaaGreatDoor

namespace Go.Proofs.YtlmejpkngnilcaaGreatDoor
open Go.RowKit

/-- What was found, as it is. -/
theorem TakesW.mk0 {R : ByteArray → Int → Prop} {g : Nat} {left : List ByteArray} {am am1 : Bool} {w w1 : World} {v : Int} (h1 : am1 = (am || left.isEmpty)) (hw : Wd w1 g left.tail am1) (hb : Below g w w1)
    (hv : R (hd left) v) : TakesW R g left am w (.returned (.int .i64 v)) w1 := by
  refine ⟨v, am1, rfl, hw, hb, fun h => ?_, fun ha hl hr => ?_⟩
  · refine ⟨?_, ?_, hv⟩
    · cases am
      · rfl
      · rw [h1] at h; simp at h
    · rintro rfl
      rw [h1] at h; simp at h
  · rw [h1, ha]
    cases left with
    | nil => exact absurd rfl hl
    | cons s r => rfl
/-- 'a[k]' of an array of strings. -/
theorem idx_arr {T : TypeId} (n : Nat) (hT : Tryz.prog.underlying T = some (.array n 9)) {cs : Array Value} (s : ByteArray) (k : Int) (hk : 0 ≤ k ∧ k < n) (hc : cs[k.toNat]? = some (.string s)) (w : World) :
    (Instr.index T (.agg cs) (.int .i64 k)).run Tryz.prog w = .ok (.string s) w := by
  have hu : Tryz.prog.underlying 9 = some .string := by kernel_rfl
  obtain ⟨i, hi, h1⟩ : ∃ i, Tryz.prog.info? 9 = some i ∧ i.size = 1 := by
    have h : (Tryz.prog.info? 9).map (·.size) = some 1 := by kernel_rfl
    cases hh : Tryz.prog.info? 9 with
    | none => rw [hh] at h; cases h
    | some i => rw [hh] at h; exact ⟨i, rfl, by simpa using h⟩
  have hs : ∀ w, (sizeOf 9).run Tryz.prog w = .ok 1 w := fun w => by simp [sizeOf, typeInfo, hi, h1, go_sem]
  have ha : ∀ w, (isAgg 9).run Tryz.prog w = .ok false w := fun w => by simp [isAgg, run_underlying hu, go_sem]
  simp [Instr.index, run_underlying hT, asIntOf, hk, hc, go_sem, part, hs, ha]

/-- The name of a kind of lines. -/
def lineN (k : Int) : ByteArray := match k.toNat with
  | 0 => ⟨#[]⟩
  | 1 => ⟨#[102, 105, 108, 101]⟩
  | 2 => ⟨#[97, 109, 101, 110, 100]⟩
  | 3 => ⟨#[112, 97, 121]⟩
  | 4 => ⟨#[114, 101, 118, 101, 114, 115, 101]⟩
  | 5 => ⟨#[111, 102, 102, 115, 101, 116]⟩
  | 6 => ⟨#[114, 101, 102, 117, 110, 100]⟩
  | 7 => ⟨#[105, 110, 116, 101, 114, 101, 115, 116]⟩
  | _ => ⟨#[]⟩
set_option maxRecDepth 100000 in
theorem lineName_any (k : Int) (h0 : 0 ≤ k) (h1 : k ≤ 7) (w : World) : Calls Tryz.prog 18 #[.int .i64 k] w fun e w' => e = .returned (.string (lineN k)) ∧ w' = w := by
  have hk : k = 0 ∨ k = 1 ∨ k = 2 ∨ k = 3 ∨ k = 4 ∨ k = 5 ∨ k = 6 ∨ k = 7 := by omega
  clear h0 h1
  have hI : ∀ w, (Instr.index 85 (.agg #[.string ⟨#[]⟩, .string ⟨#[102, 105, 108, 101]⟩, .string ⟨#[97, 109, 101, 110, 100]⟩, .string ⟨#[112, 97, 121]⟩, .string ⟨#[114, 101, 118, 101, 114, 115, 101]⟩, .string ⟨#[111, 102, 102, 115, 101, 116]⟩, .string ⟨#[114, 101, 102, 117, 110, 100]⟩, .string ⟨#[105, 110, 116, 101, 114, 101, 115, 116]⟩]) (.int .i64 k)).run Tryz.prog w = .ok (.string (lineN k)) w := fun w => by
    rcases hk with rfl | rfl | rfl | rfl | rfl | rfl | rfl | rfl <;> exact idx_arr 8 (by kernel_rfl) _ _ (by decide) rfl w
  rcases hk with rfl | rfl | rfl | rfl | rfl | rfl | rfl | rfl
  all_goals
    go_enter Tryz.func18, Tryz.ntmps18
    go_wp2_with fail
    go_ret
    exact ⟨rfl, rfl⟩
def lineR (s : ByteArray) (k : Int) : Prop := 1 ≤ k ∧ k ≤ 7 ∧ lineN k = s
set_option maxHeartbeats 2000000 in
set_option maxRecDepth 100000 in
theorem kindline_any (g : Nat) (left : List ByteArray) (am : Bool) (w : World) (hn : left.length ≤ 1000000) (h : Wd w g left am) :
    Calls Tryz.prog 35 #[.pointer (some ⟨g, 0, none⟩), .func (.func 18) #[] #[], .int .i64 1, .int .i64 7] w (TakesW lineR g left am w) := by
  have KN := Lib.hid (next_any g left am w hn h)
  obtain ⟨x, hx⟩ : ∃ x, x = hd left := ⟨_, rfl⟩
  obtain ⟨am1, ham⟩ : ∃ b, b = (am || left.isEmpty) := ⟨_, rfl⟩
  rw [← hx, ← ham] at KN
  have HX := Lib.hid hx; have HAM := Lib.hid ham
  clear h hn hx ham
  go_enter Tryz.func35, Tryz.ntmps35
  go_wp2_with fail
  refine KN.out.mono ?_
  rintro e w1 ⟨rfl, hw1, hb1⟩
  have HW1 := Lib.hid hw1; have HB1 := Lib.hid hb1
  clear hw1 hb1 KN
  go_wp2_with fail
  go_loopw [10] (fun i wr => ∃ k : Int, 1 ≤ k ∧ k ≤ 7 + 1 ∧ i = .int .i64 k ∧ wr = w1 ∧ Hid (∀ j, 1 ≤ j → j < k → lineN j ≠ x)) (fun i _ => (7 + 1 - intOf i).toNat)
  case atStart => exact ⟨1, by omega, by omega, rfl, rfl, Lib.hid (fun j h1 h2 => by omega)⟩
  case round =>
    obtain ⟨k, hk0, hk1, rfl, rfl, HJ⟩ := hrel
    by_cases hlt : k ≤ 7
    · obtain ⟨M, hM⟩ : ∃ M, M = lineN k := ⟨_, rfl⟩
      have KL := Lib.hid (lineName_any k (by omega) hlt wr)
      rw [← hM] at KL
      have HM := Lib.hid hM
      clear hM
      go_wp2_with fail
      refine KL.out.mono ?_
      rintro e w2 ⟨rfl, he⟩
      rw [he]
      clear he KL
      by_cases hq : M = x
      · have e1 : (M.toList == x.toList) = true := by rw [hq]; exact beq_self_eq_true _
        have HQ := Lib.hid hq
        clear hq
        go_wp2_with fail
        go_ret
        exact TakesW.mk0 HAM.out HW1.out HB1.out ⟨hk0, hlt, by rw [← HM.out, ← HX.out]; exact HQ.out⟩
      · have e1 : (M.toList == x.toList) = false := by
          rw [beq_eq_false_iff_ne]
          intro hh
          rw [ByteArray.toList_eq, ByteArray.toList_eq] at hh
          exact hq (ByteArray.ext (Array.toList_inj.1 hh))
        have HQ := Lib.hid hq
        clear hq
        go_wp2_with fail
        go_round
        case rel => exact ⟨k + 1, by omega, by omega, by go_num, (by first | rfl | trivial), Lib.hid (fun j h1 h2 => by
          by_cases hj : j = k
          · subst hj; rw [← HM.out]; exact HQ.out
          · exact HJ.out j h1 (by omega))⟩
        case measure => simp [intOf]; omega
    · obtain ⟨_, q1, _, f1⟩ := HW1.out.cells
      go_wp2_with fail
      go_ret
      exact TakesW.mk (bad := true) HAM.out HW1.out HB1.out (fun h => by cases h) (fun ⟨j, h1, h2, h3⟩ => absurd (h3.trans HX.out.symm) (HJ.out j h1 (by omega))) (by rw [Bool.or_true])

/-- The name of a kind of items. -/
def itemN (k : Int) : ByteArray := match k.toNat with
  | 0 => ⟨#[112, 101, 110, 97, 108, 116, 121]⟩
  | 1 => ⟨#[105, 110, 116, 101, 114, 101, 115, 116]⟩
  | 2 => ⟨#[112, 114, 105, 110, 99, 105, 112, 97, 108]⟩
  | _ => ⟨#[]⟩
set_option maxRecDepth 100000 in
theorem itemName_any (k : Int) (h0 : 0 ≤ k) (h1 : k ≤ 2) (w : World) : Calls Tryz.prog 19 #[.int .i64 k] w fun e w' => e = .returned (.string (itemN k)) ∧ w' = w := by
  have hk : k = 0 ∨ k = 1 ∨ k = 2 := by omega
  clear h0 h1
  have hI : ∀ w, (Instr.index 86 (.agg #[.string ⟨#[112, 101, 110, 97, 108, 116, 121]⟩, .string ⟨#[105, 110, 116, 101, 114, 101, 115, 116]⟩, .string ⟨#[112, 114, 105, 110, 99, 105, 112, 97, 108]⟩]) (.int .i64 k)).run Tryz.prog w = .ok (.string (itemN k)) w := fun w => by
    rcases hk with rfl | rfl | rfl <;> exact idx_arr 3 (by kernel_rfl) _ _ (by decide) rfl w
  rcases hk with rfl | rfl | rfl
  all_goals
    go_enter Tryz.func19, Tryz.ntmps19
    go_wp2_with fail
    go_ret
    exact ⟨rfl, rfl⟩
def itemR (s : ByteArray) (k : Int) : Prop := 0 ≤ k ∧ k ≤ 2 ∧ itemN k = s
set_option maxHeartbeats 2000000 in
set_option maxRecDepth 100000 in
theorem kinditem_any (g : Nat) (left : List ByteArray) (am : Bool) (w : World) (hn : left.length ≤ 1000000) (h : Wd w g left am) :
    Calls Tryz.prog 35 #[.pointer (some ⟨g, 0, none⟩), .func (.func 19) #[] #[], .int .i64 0, .int .i64 2] w (TakesW itemR g left am w) := by
  have KN := Lib.hid (next_any g left am w hn h)
  obtain ⟨x, hx⟩ : ∃ x, x = hd left := ⟨_, rfl⟩
  obtain ⟨am1, ham⟩ : ∃ b, b = (am || left.isEmpty) := ⟨_, rfl⟩
  rw [← hx, ← ham] at KN
  have HX := Lib.hid hx; have HAM := Lib.hid ham
  clear h hn hx ham
  go_enter Tryz.func35, Tryz.ntmps35
  go_wp2_with fail
  refine KN.out.mono ?_
  rintro e w1 ⟨rfl, hw1, hb1⟩
  have HW1 := Lib.hid hw1; have HB1 := Lib.hid hb1
  clear hw1 hb1 KN
  go_wp2_with fail
  go_loopw [10] (fun i wr => ∃ k : Int, 0 ≤ k ∧ k ≤ 2 + 1 ∧ i = .int .i64 k ∧ wr = w1 ∧ Hid (∀ j, 0 ≤ j → j < k → itemN j ≠ x)) (fun i _ => (2 + 1 - intOf i).toNat)
  case atStart => exact ⟨0, by omega, by omega, rfl, rfl, Lib.hid (fun j h1 h2 => by omega)⟩
  case round =>
    obtain ⟨k, hk0, hk1, rfl, rfl, HJ⟩ := hrel
    by_cases hlt : k ≤ 2
    · obtain ⟨M, hM⟩ : ∃ M, M = itemN k := ⟨_, rfl⟩
      have KL := Lib.hid (itemName_any k (by omega) hlt wr)
      rw [← hM] at KL
      have HM := Lib.hid hM
      clear hM
      go_wp2_with fail
      refine KL.out.mono ?_
      rintro e w2 ⟨rfl, he⟩
      rw [he]
      clear he KL
      by_cases hq : M = x
      · have e1 : (M.toList == x.toList) = true := by rw [hq]; exact beq_self_eq_true _
        have HQ := Lib.hid hq
        clear hq
        go_wp2_with fail
        go_ret
        exact TakesW.mk0 HAM.out HW1.out HB1.out ⟨hk0, hlt, by rw [← HM.out, ← HX.out]; exact HQ.out⟩
      · have e1 : (M.toList == x.toList) = false := by
          rw [beq_eq_false_iff_ne]
          intro hh
          rw [ByteArray.toList_eq, ByteArray.toList_eq] at hh
          exact hq (ByteArray.ext (Array.toList_inj.1 hh))
        have HQ := Lib.hid hq
        clear hq
        go_wp2_with fail
        go_round
        case rel => exact ⟨k + 1, by omega, by omega, by go_num, (by first | rfl | trivial), Lib.hid (fun j h1 h2 => by
          by_cases hj : j = k
          · subst hj; rw [← HM.out]; exact HQ.out
          · exact HJ.out j h1 (by omega))⟩
        case measure => simp [intOf]; omega
    · obtain ⟨_, q1, _, f1⟩ := HW1.out.cells
      go_wp2_with fail
      go_ret
      exact TakesW.mk (bad := true) HAM.out HW1.out HB1.out (fun h => by cases h) (fun ⟨j, h1, h2, h3⟩ => absurd (h3.trans HX.out.symm) (HJ.out j h1 (by omega))) (by rw [Bool.or_true])
end Go.Proofs.YtlmejpkngnilcaaGreatDoor

namespace Go.Proofs.YtlmejpkngnilcaaGreatDoor
open Go.RowKit Go.Shelf

attribute [local go_sem] Oper.semAt_some

/-- A text's first line, with its newline; what is behind it. -/
def cutL : List UInt8 → List UInt8 × List UInt8
  | [] => ([], [])
  | c :: r => if c = 10 then ([c], r) else (c :: (cutL r).1, (cutL r).2)
theorem cutL_none : ∀ {l : List UInt8}, Lib.indexByte l 10 = -1 → cutL l = (l, [])
  | [], _ => rfl
  | c :: r, h => by
    unfold Lib.indexByte at h
    unfold cutL
    by_cases hc : c = 10
    · subst hc; simp at h
    · have hc2 : (c == 10) = false := by simpa using hc
      rw [hc2] at h
      have hr : Lib.indexByte r 10 = -1 := by
        have := Lib.indexByte_ge r 10
        by_cases h1 : Lib.indexByte r 10 = -1
        · exact h1
        · simp [h1] at h; omega
      rw [if_neg hc, cutL_none hr]
theorem cutL_some : ∀ {l : List UInt8} {i : Nat}, Lib.indexByte l 10 = (i : Int) → cutL l = (l.take (i + 1), l.drop (i + 1)) ∧ i < l.length
  | [], i, h => by unfold Lib.indexByte at h; omega
  | c :: r, i, h => by
    unfold Lib.indexByte at h
    unfold cutL
    by_cases hc : c = 10
    · subst hc
      simp at h
      have : i = 0 := by omega
      subst this
      simp
    · have hc2 : (c == 10) = false := by simpa using hc
      rw [hc2] at h
      have := Lib.indexByte_ge r 10
      by_cases h1 : Lib.indexByte r 10 = -1
      · simp [h1] at h
      · simp [h1] at h
        obtain ⟨k, hk⟩ : ∃ k : Nat, i = k + 1 := ⟨i - 1, by omega⟩
        subst hk
        obtain ⟨e1, e2⟩ := cutL_some (l := r) (i := k) (by omega)
        rw [if_neg hc, e1]
        simpa using e2
theorem cutL_app : ∀ l : List UInt8, (cutL l).1 ++ (cutL l).2 = l
  | [] => rfl
  | c :: r => by
    unfold cutL
    split
    · rfl
    · show c :: ((cutL r).1 ++ (cutL r).2) = _
      rw [cutL_app r]
/-- Lines of a text, from the first on; what is left. -/
inductive LinesOf (t : ByteArray) : List ByteArray → ByteArray → Prop
  | nil : LinesOf t [] t
  | step {pre : List ByteArray} {r x r' : ByteArray} : LinesOf t pre r → r.size ≠ 0 → x.data.toList = (cutL r.data.toList).1 → r'.data.toList = (cutL r.data.toList).2 → LinesOf t (pre ++ [x]) r'
theorem cutL_len (l : List UInt8) (h : l ≠ []) : (cutL l).1.length + (cutL l).2.length = l.length ∧ 0 < (cutL l).1.length := by
  refine ⟨?_, ?_⟩
  · have := congrArg List.length (cutL_app l); simpa using this
  · cases l with
    | nil => exact absurd rfl h
    | cons c r =>
      unfold cutL
      split <;> simp
theorem LinesOf.size {t : ByteArray} {pre : List ByteArray} {r : ByteArray} (h : LinesOf t pre r) : pre.length + r.size ≤ t.size ∧ ∀ x ∈ pre, x.size ≤ t.size := by
  induction h with
  | nil => exact ⟨by simp, fun x hx => (by cases hx)⟩
  | @step pre r x r' h hr hx hr' ih =>
    have hne : r.data.toList ≠ [] := fun e => hr (by have := congrArg List.length e; simpa using this)
    obtain ⟨h1, h2⟩ := cutL_len r.data.toList hne
    rw [← hx, ← hr'] at h1
    rw [← hx] at h2
    have e1 : x.data.toList.length = x.size := Array.length_toList
    have e2 : r'.data.toList.length = r'.size := Array.length_toList
    have e3 : r.data.toList.length = r.size := Array.length_toList
    rw [e1] at h1 h2
    rw [e2, e3] at h1
    refine ⟨by rw [List.length_append]; simp; omega, fun y hy => ?_⟩
    rcases List.mem_append.1 hy with hy | hy
    · exact ih.2 y hy
    · rw [List.mem_singleton] at hy; subst hy; omega
/-- What a round of the range keeps: the box with the rest. -/
structure KpB (b0 : Nat) (W W' : World) : Prop where
  size : W.heap.size ≤ W'.heap.size
  box : W'.heap[b0]? = W.heap[b0]?
theorem KpB.trans {b0 : Nat} {A B C : World} (h : KpB b0 A B) (h2 : KpB b0 B C) : KpB b0 A C := ⟨Nat.le_trans h.size h2.size, h2.box.trans h.box⟩
def boxStr (b0 : Nat) (w : World) : Nat := match w.cell? ⟨b0, 0, none⟩ with | some (.string s) => s.size | _ => 0
set_option maxHeartbeats 2000000 in
set_option maxRecDepth 100000 in
theorem lines1_in (l b0 : Nat) (t : ByteArray) (J Jx : List ByteArray → World → Prop) (hJ : AbO (fun r => r = b0) J)
    (hY : ∀ pre x W1, J pre W1 → (∃ r', LinesOf t (pre ++ [x]) r') → pre.length < t.size + 1 → YieldAt Fence.wide 3 Tryz.prog l #[.string x] W1 fun e W' => (e = .returned (.bool true) ∧ J (pre ++ [x]) W' ∧ KpB b0 W1 W') ∨ (e = .returned (.bool false) ∧ Jx (pre ++ [x]) W'))
    (W : World) (hbox : W.heap[b0]? = some (.cells #[.string t] 9)) (ht : t.size ≤ 1000000) (h0 : J [] W) :
    CallsIn Fence.wide 4 Tryz.prog 49 #[.func (.yield l) #[] #[], .pointer (some ⟨b0, 0, none⟩)] W fun e W' => (∃ v, e = .returned v) ∧
      ((∃ ys, LinesOf t ys ⟨#[]⟩ ∧ J ys W') ∨ (∃ pre, True ∧ Jx pre W')) := by
  have HX := Lib.hid hbox
  have HY := Lib.hid hY
  have HJ0 := Lib.hid h0
  clear hbox hY h0
  refine callsIn_of_wp Tryz.func49 rfl trivial ?_ rfl
  simp only [Tryz.ntmps49, List.size_toArray, List.length_cons, List.length_nil, Nat.reduceAdd, Nat.reduceSub, Array.replicate_succ, Array.replicate_zero, List.push_toArray, List.append_toArray, List.nil_append, List.cons_append]
  gi_wp2
  gi_loopw [3, 4] (fun _ _ wr => ∃ (pre : List ByteArray) (r : ByteArray), r.size ≤ 1000000 ∧ Hid (wr.heap[b0]? = some (.cells #[.string r] 9)) ∧ Hid (LinesOf t pre r) ∧ Hid (J pre wr)) (fun _ _ wr => boxStr b0 wr)
  case atStart => exact ⟨[], t, ht, HX, Lib.hid .nil, HJ0⟩
  case round =>
    obtain ⟨pre, r, hrz, HBX, HL, HJ⟩ := hrel
    have q0 := box_cell HBX.out
    by_cases h0 : r.size = 0
    · have hn : ¬ (0 : Int) < (r.size : Int) := by omega
      gi_wp2_with fail
      have hr0 : r = ⟨#[]⟩ := ByteArray.ext (Array.eq_empty_of_size_eq_zero h0)
      refine ⟨rfl, _, results_none rfl _ _ _, ⟨_, rfl⟩, .inl ⟨pre, by rw [← hr0]; exact HL.out, HJ.out⟩⟩
    · have h0p : (0 : Int) < (r.size : Int) := by omega
      have K := Tryz.strings_IndexByte r 10 wr
      rw [show (10 : Int).toNat.toUInt8 = (10 : UInt8) from rfl] at K
      have hge := Lib.indexByte_ge r.data.toList 10
      obtain ⟨I, hI⟩ : ∃ I, I = Lib.indexByte r.data.toList 10 := ⟨_, rfl⟩
      rw [← hI] at K hge
      have HK := Lib.hid K
      have HI := Lib.hid hI
      have hfz := box_frozen HBX.out
      clear K hI
      gi_wp2_with fail
      refine ⟨trivial, (callsIn_wide.2 HK.out).mono ?_⟩
      rintro e w1 ⟨rfl, he⟩
      rw [he]
      clear he
      by_cases hin : 0 ≤ I
      · obtain ⟨k, hk⟩ : ∃ k : Nat, I = (k : Int) := ⟨I.toNat, by omega⟩
        obtain ⟨e1, e2⟩ := cutL_some (HI.out.symm.trans hk)
        have e3 : r.data.toList.length = r.size := Array.length_toList
        have hk2 : k + 1 ≤ r.size := by omega
        subst hk
        have hwr : IntKind.i64.wrap ((k : Int) + 1) = ((k + 1 : Nat) : Int) := by rw [IntWalk.i64_in _ (by omega)]; omega
        gi_wp2_with fail
        gi_region
        have hx1 : (r.extract 0 (k + 1)).data.toList = (cutL r.data.toList).1 := by rw [e1]; simp [ByteArray.data_extract]
        have hr1 : (r.extract (k + 1) r.size).data.toList = (cutL r.data.toList).2 := by rw [e1, Lib.extract_to_end]
        have hz : (r.extract (k + 1) r.size).size < r.size := by simp; omega
        obtain ⟨x, hx⟩ : ∃ x, x = r.extract 0 (k + 1) := ⟨_, rfl⟩
        obtain ⟨r', hr'⟩ : ∃ x, x = r.extract (k + 1) r.size := ⟨_, rfl⟩
        rw [← hx] at hx1 ⊢
        rw [← hr'] at hr1 hz ⊢
        clear hx hr'
        have HS1 := Lib.hid (LinesOf.step HL.out h0 hx1 hr1)
        have HZ := Lib.hid hz
        have HBX1 : Hid ((wr.setCell ⟨b0, 0, none⟩ (.string r')).drew.heap[b0]? = some (.cells #[.string r'] 9)) := Lib.hid (box_set HBX.out _)
        have HJ1 : Hid (J pre (wr.setCell ⟨b0, 0, none⟩ (.string r')).drew) := Lib.hid (hJ _ _ _ none (hJ.setCell HJ.out ⟨b0, 0, none⟩ (.string r') rfl) (grown_of_below (Below.refl _ _).drew) (fun r e => by cases e))
        have hlen := HL.out.size.1
        obtain ⟨fn, tmps, assign, body, hy, hR⟩ := HY.out pre x _ HJ1.out ⟨r', HS1.out⟩ (by omega)
        have HR := Lib.hid hR
        clear hR hx1 hr1 hz hlen
        gi_wp2_with fail
        refine HR.out.mono ?_
        rintro e W3 (⟨rfl, hJ3, hk3⟩ | ⟨rfl, hJx3⟩)
        · have HBX3 := Lib.hid (hk3.box.trans HBX1.out)
          have HJ3 := Lib.hid hJ3
          clear hk3 hJ3 q0 hy
          gi_wp2_with fail
          refine ⟨⟨pre ++ [x], r', by have := HZ.out; omega, HBX3, HS1, HJ3⟩, ?_⟩
          have e1 : boxStr b0 W3 = r'.size := by unfold boxStr; rw [box_cell HBX3.out]
          have e2 : boxStr b0 wr = r.size := by unfold boxStr; rw [box_cell HBX.out]
          rw [e1, e2]; exact HZ.out
        · have HJX : Hid (Jx (pre ++ [x]) W3) := Lib.hid hJx3
          clear hJx3 hy q0
          gi_wp2_with fail
          refine bodyPost_ret (results_none rfl _ _ _) rfl ?_
          exact ⟨⟨_, rfl⟩, .inr ⟨_, trivial, HJX.out⟩⟩
      · have hI1 : I = -1 := by omega
        have e1 := cutL_none (HI.out.symm.trans hI1)
        clear hI1
        have hx1 : r.data.toList = (cutL r.data.toList).1 := by rw [e1]
        have hr1 : (⟨#[]⟩ : ByteArray).data.toList = (cutL r.data.toList).2 := by rw [e1]
        have hz : (⟨#[]⟩ : ByteArray).size < r.size := by show 0 < r.size; omega
        have HS1 := Lib.hid (LinesOf.step HL.out h0 hx1 hr1)
        have HZ := Lib.hid hz
        have HBX1 : Hid ((wr.setCell ⟨b0, 0, none⟩ (.string ⟨#[]⟩)).heap[b0]? = some (.cells #[.string ⟨#[]⟩] 9)) := Lib.hid (box_set HBX.out _)
        have HJ1 : Hid (J pre (wr.setCell ⟨b0, 0, none⟩ (.string ⟨#[]⟩))) := Lib.hid (hJ.setCell HJ.out ⟨b0, 0, none⟩ (.string ⟨#[]⟩) rfl)
        have hlen := HL.out.size.1
        obtain ⟨fn, tmps, assign, body, hy, hR⟩ := HY.out pre r _ HJ1.out ⟨_, HS1.out⟩ (by omega)
        have HR := Lib.hid hR
        clear hR hx1 hr1 hz hlen
        gi_wp2_with fail
        refine HR.out.mono ?_
        rintro e W3 (⟨rfl, hJ3, hk3⟩ | ⟨rfl, hJx3⟩)
        · have HBX3 := Lib.hid (hk3.box.trans HBX1.out)
          have HJ3 := Lib.hid hJ3
          clear hk3 hJ3 q0 hy
          gi_wp2_with fail
          refine ⟨⟨pre ++ [r], ⟨#[]⟩, by have := HZ.out; omega, HBX3, HS1, HJ3⟩, ?_⟩
          have e1 : boxStr b0 W3 = (⟨#[]⟩ : ByteArray).size := by unfold boxStr; rw [box_cell HBX3.out]
          have e2 : boxStr b0 wr = r.size := by unfold boxStr; rw [box_cell HBX.out]
          rw [e1, e2]; exact HZ.out
        · have HJX : Hid (Jx (pre ++ [r]) W3) := Lib.hid hJx3
          clear hJx3 hy q0
          gi_wp2_with fail
          refine bodyPost_ret (results_none rfl _ _ _) rfl ?_
          exact ⟨⟨_, rfl⟩, .inr ⟨_, trivial, HJX.out⟩⟩
end Go.Proofs.YtlmejpkngnilcaaGreatDoor
