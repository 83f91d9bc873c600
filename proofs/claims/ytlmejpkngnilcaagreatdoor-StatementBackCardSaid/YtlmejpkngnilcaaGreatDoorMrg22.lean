/- Parts of the proof, one behind the other: Plain: so many decimal digits of a number; the text of a date; texts stand in the order of the dates. No Go in sight. -/
import Derived.Test.YtlmejpkngnilcaaGreatDoorMrg20
import Derived.Lib.ItoaNum
import Derived.Lib.Repeat
import Derived.Laws.Strings
namespace Go.Proofs.YtlmejpkngnilcaaGreatDoor.Dig
open Go.Op (bytesLess)

def dg (n : Nat) : UInt8 := UInt8.ofNat (48 + n % 10)
theorem dg_nat (n : Nat) : (dg n).toNat = 48 + n % 10 := by unfold dg; rw [UInt8.toNat_ofNat']; omega
/-- The w lowest decimal digits of n, the highest first. -/
def digW : Nat → Nat → List UInt8
  | 0, _ => []
  | w + 1, n => digW w (n / 10) ++ [dg n]
theorem digW_length : ∀ (w n : Nat), (digW w n).length = w := by
  intro w
  induction w with
  | zero => intro n; rfl
  | succ w ih => intro n; simp [digW, ih]
theorem digW_zero : ∀ w, digW w 0 = List.replicate w 48 := by
  intro w
  induction w with
  | zero => rfl
  | succ w ih =>
    rw [digW, Nat.zero_div, ih]
    have : dg 0 = 48 := by decide
    rw [this, ← List.replicate_succ']
theorem pad (w : Nat) : ∀ n, 0 < w → n < 10 ^ w → (Lib.decDigits n).length ≤ w ∧ List.replicate (w - (Lib.decDigits n).length) 48 ++ Lib.decDigits n = digW w n := by
  induction w with
  | zero => intro n h; omega
  | succ w ih =>
    intro n _ hn
    by_cases h : n < 10
    · rw [Lib.decDigits_one h]
      have e1 : n / 10 = 0 := by omega
      have e2 : dg n = UInt8.ofNat (48 + n) := by unfold dg; rw [Nat.mod_eq_of_lt h]
      refine ⟨by simp, ?_⟩
      rw [digW, e1, digW_zero, e2]; simp
    · have hw : 0 < w := by
        rcases Nat.eq_zero_or_pos w with h0 | h0
        · subst h0; omega
        · exact h0
      have hd : Lib.decDigits n = Lib.decDigits (n / 10) ++ [dg n] := by rw [Lib.decDigits, dif_neg h]; rfl
      obtain ⟨h1, h2⟩ := ih (n / 10) hw (by rw [Nat.pow_succ] at hn; omega)
      rw [hd, List.length_append]
      refine ⟨by simp; omega, ?_⟩
      rw [digW, ← h2, ← List.append_assoc]
      have e : w + 1 - ((Lib.decDigits (n / 10)).length + [dg n].length) = w - (Lib.decDigits (n / 10)).length := by simp
      rw [e]
theorem repeat48 (c : Nat) : Lib.repeatL [48] c = List.replicate c 48 := by
  induction c with
  | zero => rfl
  | succ c ih => rw [Lib.repeatL, ih]; rfl

theorem bytesLess_cons (a b : UInt8) (x y : List UInt8) : bytesLess (a :: x) (b :: y) = (decide (a < b) || (a == b && bytesLess x y)) := rfl
theorem bytesLess_same (p x y : List UInt8) : bytesLess (p ++ x) (p ++ y) = bytesLess x y := by
  induction p with
  | nil => rfl
  | cons b p ih =>
    rw [List.cons_append, List.cons_append, bytesLess_cons, ih]
    have : ¬ b < b := by rw [UInt8.lt_iff_toNat_lt]; omega
    simp [this]
theorem bytesLess_on : ∀ (x y p q : List UInt8), x.length = y.length → bytesLess x y = true → bytesLess (x ++ p) (y ++ q) = true := by
  intro x
  induction x with
  | nil =>
    intro y p q hl h
    cases y with
    | nil => cases h
    | cons b y => simp at hl
  | cons a x ih =>
    intro y p q hl h
    cases y with
    | nil => simp at hl
    | cons b y =>
      rw [bytesLess_cons] at h
      rw [List.cons_append, List.cons_append, bytesLess_cons]
      rw [Bool.or_eq_true, Bool.and_eq_true] at h ⊢
      rcases h with h | ⟨h1, h2⟩
      · exact .inl h
      · exact .inr ⟨h1, ih y p q (by simpa using hl) h2⟩
theorem digW_less (w : Nat) : ∀ a b, a < b → b < 10 ^ w → bytesLess (digW w a) (digW w b) = true := by
  induction w with
  | zero => intro a b h1 h2; simp at h2; omega
  | succ w ih =>
    intro a b h1 h2
    rw [Nat.pow_succ] at h2
    by_cases h : a / 10 = b / 10
    · rw [digW, digW, h, bytesLess_same]
      have hlt : dg a < dg b := by rw [UInt8.lt_iff_toNat_lt, dg_nat, dg_nat]; omega
      show (decide (dg a < dg b) || (dg a == dg b && bytesLess [] [])) = true
      rw [decide_eq_true hlt]; rfl
    · rw [digW, digW]
      exact bytesLess_on _ _ _ _ (by rw [digW_length, digW_length]) (ih _ _ (by omega) (by omega))
theorem app3 (p q r s : List UInt8) : p ++ q ++ r ++ s = p ++ (q ++ (r ++ s)) := by simp
/-- The text of a date. -/
def text (y m d : Int) : List UInt8 := digW 4 y.toNat ++ [45] ++ digW 2 m.toNat ++ [45] ++ digW 2 d.toNat
theorem text_length (y m d : Int) : (text y m d).length = 10 := by unfold text; simp [digW_length]
theorem text_less {y m d z k i : Int} (h : Cal.Valid y m d) (h' : Cal.Valid z k i) (hn : Cal.num y m d < Cal.num z k i) : bytesLess (text y m d) (text z k i) = true := by
  have b1 := Cal.doy_bd y m d h
  have b2 := Cal.doy_bd z k i h'
  obtain ⟨y1, y2, m1, m2, d1, d2⟩ := h
  obtain ⟨z1, z2, k1, k2, i1, i2⟩ := h'
  have e1 := Cal.dim_bd y m
  have e2 := Cal.dim_bd z k
  have hyz : y < z ∨ y = z := by
    rcases Int.lt_trichotomy y z with hl | rfl | hl
    · exact .inl hl
    · exact .inr rfl
    · have := Cal.dby_lt z y hl; unfold Cal.num at hn; omega
  unfold text
  rcases hyz with hl | rfl
  · rw [List.append_assoc, List.append_assoc, List.append_assoc, List.append_assoc, List.append_assoc, List.append_assoc]
    exact bytesLess_on _ _ _ _ (by rw [digW_length, digW_length]) (digW_less 4 _ _ (by omega) (by omega))
  · have hmk : m < k ∨ m = k := by
      rcases Int.lt_trichotomy m k with hl | rfl | hl
      · exact .inl hl
      · exact .inr rfl
      · have := Cal.cum_mono y (k + 1) m (by omega) (by omega) (by omega)
        have := Cal.cum_succ y k k1 k2
        unfold Cal.num at hn; omega
    rcases hmk with hl | rfl
    · rw [app3 (digW 4 y.toNat ++ [45]), app3 (digW 4 y.toNat ++ [45]), bytesLess_same]
      exact bytesLess_on _ _ _ _ (by rw [digW_length, digW_length]) (digW_less 2 _ _ (by omega) (by omega))
    · rw [bytesLess_same]
      exact digW_less 2 _ _ (by unfold Cal.num at hn; omega) (by omega)
/-- The next day. -/
theorem next {n y m d z k i : Int} (h : Cal.Valid y m d) (hn : Cal.num y m d = n) (h' : Cal.Valid z k i) (hn' : Cal.num z k i = n + 1) :
    (d < Cal.dim y m ∧ z = y ∧ k = m ∧ i = d + 1) ∨ (¬ d < Cal.dim y m ∧ i = 1 ∧ ((z = y ∧ k = m + 1) ∨ (z = y + 1 ∧ k = 1 ∧ m = 12))) := by
  have hv := h
  obtain ⟨y1, y2, m1, m2, d1, d2⟩ := h
  by_cases hd : d < Cal.dim y m
  · have hv2 : Cal.Valid y m (d + 1) := ⟨y1, y2, m1, m2, by omega, by omega⟩
    obtain ⟨a, b, c⟩ := Cal.num_inj h' hv2 (by rw [hn', ← hn]; unfold Cal.num; omega)
    exact .inl ⟨hd, a, b, c⟩
  · have hde : d = Cal.dim y m := by omega
    have hc := Cal.cum_succ y m m1 m2
    by_cases hm : m = 12
    · have h13 : Cal.cum y (12 + 1) = Cal.cum y 13 := rfl
      have he := Cal.cum_end y
      have hs := Cal.dby_succ y
      rw [hm] at hc
      have hy : y < 9999 := by
        rcases Int.lt_or_eq_of_le y2 with h | h
        · exact h
        · have hb := Cal.num_bd z k i h'
          have hmx := Cal.dby_max
          have hq : Cal.dby (y + 1) = Cal.dby 10000 := by rw [h]; rfl
          unfold Cal.num at hn
          rw [hm] at hn hde
          omega
      have hdm := Cal.dim_bd (y + 1) 1
      have hv2 : Cal.Valid (y + 1) 1 1 := ⟨by omega, by omega, by omega, by omega, by omega, by omega⟩
      obtain ⟨a, b, c⟩ := Cal.num_inj h' hv2 (by
        rw [hn', ← hn]; unfold Cal.num; rw [hm] at hde ⊢; rw [Cal.cum_one]; omega)
      exact .inr ⟨hd, c, .inr ⟨a, b, hm⟩⟩
    · have hdm := Cal.dim_bd y (m + 1)
      have hv2 : Cal.Valid y (m + 1) 1 := ⟨y1, y2, by omega, by omega, by omega, by omega⟩
      obtain ⟨a, b, c⟩ := Cal.num_inj h' hv2 (by rw [hn', ← hn]; unfold Cal.num; omega)
      exact .inr ⟨hd, c, .inl ⟨a, b⟩⟩
end Go.Proofs.YtlmejpkngnilcaaGreatDoor.Dig
