/- Parts of the proof, one behind the other: The plain keys of layer 3. No Go in sight.; Plain: a part taken of bytes.; Plain: keys, as bytes, stand in the order of the lists of parts.; Plain: what was coded is taken as it was. -/
import Derived.Test.YtgmnhdkdicgkcaaGreatDoorMrg06
import Derived.Test.YtgmnhdkdicgkcaaGreatDoorMrg11
import Derived.Test.YtgmnhdkdicgkcaaGreatDoorMrg04
import Derived.Lib.BitFns
import Derived.Laws.Strings
namespace Go.Proofs.YtgmnhdkdicgkcaaGreatDoor.Cod

/-- A number in base 256, the highest digit first, without a 0 ahead. -/
def be (n : Nat) : List UInt8 := if _h : n = 0 then [] else be (n / 256) ++ [UInt8.ofNat (n % 256)]
termination_by n
decreasing_by omega
theorem be_zero : be 0 = [] := by rw [be]; simp
theorem be_pos {n : Nat} (h : n ≠ 0) : be n = be (n / 256) ++ [UInt8.ofNat (n % 256)] := by rw [be, dif_neg h]
/-- So many digits of a number. -/
def beW : Nat → Nat → List UInt8
  | 0, _ => []
  | w + 1, n => beW w (n / 256) ++ [UInt8.ofNat (n % 256)]
theorem beW_length : ∀ (w n : Nat), (beW w n).length = w := by
  intro w
  induction w with
  | zero => intro n; rfl
  | succ w ih => intro n; simp [beW, ih]
/-- One part's key. -/
def partKey (p : Pt) : List UInt8 := if p.t then 32 :: (Esc.esc 0 [0, 255] p.s.data.toList ++ [0, 0]) else UInt8.ofNat (16 + (be p.n).length) :: be p.n
/-- The key of parts. -/
def key (l : List Pt) : List UInt8 := l.flatMap partKey
theorem key_append (l m : List Pt) : key (l ++ m) = key l ++ key m := by simp [key]
theorem key_take_succ (l : List Pt) (k : Nat) (h : k < l.length) : key (l.take (k + 1)) = key (l.take k) ++ partKey l[k] := by
  rw [List.take_succ_eq_append_getElem h, key_append]
  simp [key]
theorem key_take_le (l : List Pt) (k : Nat) (h : k < l.length) : (key (l.take k)).length + (partKey l[k]).length ≤ (key l).length := by
  have e : key l = key (l.take (k + 1)) ++ key (l.drop (k + 1)) := by rw [← key_append, List.take_append_drop]
  rw [e, key_take_succ l k h]
  simp
theorem be_self (n : Nat) : be n = beW (be n).length n := by
  induction n using Nat.strongRecOn with
  | ind n ih =>
    by_cases h : n = 0
    · subst h; rw [be_zero]; rfl
    · rw [be_pos h, List.length_append]
      show _ = beW ((be (n / 256)).length + 1) n
      rw [beW, ← ih (n / 256) (by omega)]
/-- How many bytes a number has, by its bits. -/
theorem be_bits (n : Nat) : n < 18446744073709551616 → (Lib.bitLen n + 7) / 8 = (be n).length := by
  induction n using Nat.strongRecOn with
  | ind n ih =>
    intro hn
    by_cases h : n = 0
    · subst h; rw [be_zero]; decide
    · rw [be_pos h, List.length_append]
      rcases Nat.lt_or_ge n 256 with h2 | h2
      · have h3 : n / 256 = 0 := by omega
        rw [h3, be_zero]
        have h4 := Lib.bitLen_le8 ⟨n, h2⟩
        have h5 := Lib.bitLen_half n h (by omega)
        simp only at h4
        simp only [List.length_nil, List.length_cons]
        omega
      · rw [Lib.bitLen_shift8 n h2 hn, ← ih (n / 256) (by omega) (by omega)]
        simp only [List.length_nil, List.length_cons]
        omega
theorem be_len {n : Nat} (h : n < 18446744073709551616) : (be n).length ≤ 8 := by
  have key : ∀ (w n : Nat), n < 256 ^ w → (be n).length ≤ w := by
    intro w
    induction w with
    | zero => intro n h; have : n = 0 := by simpa using h
              subst this; simp [be_zero]
    | succ w ih =>
      intro n h
      by_cases h0 : n = 0
      · subst h0; simp [be_zero]
      · rw [be_pos h0, List.length_append]
        have := ih (n / 256) (by rw [Nat.pow_succ] at h; omega)
        simp; omega
  exact key 8 n (by have : (256 : Nat) ^ 8 = 18446744073709551616 := by decide
                    omega)
end Go.Proofs.YtgmnhdkdicgkcaaGreatDoor.Cod

namespace Go.Proofs.YtgmnhdkdicgkcaaGreatDoor.Cod

def val (n : Nat) (l : List UInt8) : Nat := l.foldl (fun a c => a * 256 + c.toNat) n
theorem val_nil (n : Nat) : val n [] = n := rfl
theorem val_cons (n : Nat) (c : UInt8) (l : List UInt8) : val n (c :: l) = val (n * 256 + c.toNat) l := rfl
theorem val_append (n : Nat) (l m : List UInt8) : val n (l ++ m) = val (val n l) m := by simp [val]
theorem val_snoc (n : Nat) (l : List UInt8) (c : UInt8) : val n (l ++ [c]) = val n l * 256 + c.toNat := by rw [val_append]; rfl
theorem byte_self (c : UInt8) : UInt8.ofNat c.toNat = c := by simp
theorem be_val_pos : ∀ (l : List UInt8) (n : Nat), 0 < n → be (val n l) = be n ++ l := by
  intro l
  induction l with
  | nil => intro n _; rw [val_nil]; simp
  | cons c l ih =>
    intro n hn
    have hc := c.toNat_lt
    rw [val_cons, ih _ (by omega), be_pos (n := n * 256 + c.toNat) (by omega)]
    have e1 : (n * 256 + c.toNat) / 256 = n := by omega
    have e2 : (n * 256 + c.toNat) % 256 = c.toNat := by omega
    rw [e1, e2, byte_self]; simp
theorem be_val {l : List UInt8} (h : l.head? ≠ some 0) : be (val 0 l) = l := by
  cases l with
  | nil => exact be_zero
  | cons c l =>
    have hc : c ≠ 0 := fun e => h (by rw [e]; rfl)
    have hc0 : 0 < c.toNat := by
      rcases Nat.eq_zero_or_pos c.toNat with h0 | h0
      · exact absurd (UInt8.toNat_inj.1 (by rw [h0]; rfl)) hc
      · exact h0
    have hlt := c.toNat_lt
    rw [val_cons, be_val_pos _ _ (by omega), be_pos (n := 0 * 256 + c.toNat) (by omega)]
    have e1 : (0 * 256 + c.toNat) / 256 = 0 := by omega
    have e2 : (0 * 256 + c.toNat) % 256 = c.toNat := by omega
    rw [e1, e2, byte_self, be_zero]; simp
theorem val_be (n : Nat) : val 0 (be n) = n := by
  induction n using Nat.strongRecOn with
  | ind n ih =>
    by_cases h0 : n = 0
    · subst h0; rw [be_zero]; rfl
    · rw [be_pos h0, val_snoc, ih _ (by omega), UInt8.toNat_ofNat']; omega
theorem val_bound : ∀ (l : List UInt8) (n : Nat), val n l < (n + 1) * 256 ^ l.length := by
  intro l
  induction l with
  | nil => intro n; rw [val_nil]; simp
  | cons c l ih =>
    intro n
    have hc := c.toNat_lt
    have h := ih (n * 256 + c.toNat)
    rw [val_cons]
    have h2 : (n * 256 + c.toNat + 1) * 256 ^ l.length ≤ ((n + 1) * 256) * 256 ^ l.length := Nat.mul_le_mul_right _ (by omega)
    rw [List.length_cons, Nat.pow_succ, Nat.mul_comm (256 ^ l.length), ← Nat.mul_assoc]
    omega
theorem val_8 {l : List UInt8} (h : l.length ≤ 8) : val 0 l < 18446744073709551616 := by
  have h1 := val_bound l 0
  have h2 : (256 : Nat) ^ l.length ≤ 256 ^ 8 := Nat.pow_le_pow_right (by omega) h
  have h3 : (256 : Nat) ^ 8 = 18446744073709551616 := by decide
  omega

/-- A number's part behind its tag. -/
def num (t : UInt8) (b : List UInt8) : Option (Pt × List UInt8) :=
  if t.toNat < 16 ∨ 24 < t.toNat ∨ b.length < t.toNat - 16 ∨ (16 < t.toNat ∧ b.head? = some 0) then none
  else some (⟨false, val 0 (b.take (t.toNat - 16)), .empty⟩, b.drop (t.toNat - 16))
/-- A text's bytes behind its tag. -/
def txt : List UInt8 → Option (List UInt8 × List UInt8)
  | [] => none
  | c :: l => if c = 0 then (match l with | [] => none | d :: r => if d = 0 then some ([], r) else if d = 255 then (txt r).map (fun v => (0 :: v.1, v.2)) else none)
    else (txt l).map (fun v => (c :: v.1, v.2))
def one : List UInt8 → Option (Pt × List UInt8)
  | [] => none
  | t :: b => if t = 32 then (txt b).map (fun v => (⟨true, 0, ⟨v.1.toArray⟩⟩, v.2)) else num t b
/-- A part that is written in one way alone. -/
def PtN (p : Pt) : Prop := p.n < 18446744073709551616 ∧ (p.t = true → p.n = 0) ∧ (p.t = false → p.s = .empty)

theorem txt_end (r : List UInt8) : txt (0 :: 0 :: r) = some ([], r) := by rw [txt]; simp
theorem txt_esc (r : List UInt8) : txt (0 :: 255 :: r) = (txt r).map (fun v => (0 :: v.1, v.2)) := by rw [txt]; simp
theorem txt_byte {c : UInt8} (h : c ≠ 0) (r : List UInt8) : txt (c :: r) = (txt r).map (fun v => (c :: v.1, v.2)) := by rw [txt.eq_def]; simp [h]
theorem txt_one : txt [0] = none := by rw [txt]; simp
theorem txt_bad {d : UInt8} (h0 : d ≠ 0) (h1 : d ≠ 255) (r : List UInt8) : txt (0 :: d :: r) = none := by rw [txt]; simp [h0, h1]
theorem txt_enc (s y : List UInt8) : txt (Esc.esc 0 [0, 255] s ++ [0, 0] ++ y) = some (s, y) := by
  induction s with
  | nil => rw [Esc.esc_nil]; exact txt_end y
  | cons c s ih =>
    rw [Esc.esc_cons]
    by_cases hc : c = 0
    · subst hc
      rw [if_pos rfl]
      show txt (0 :: 255 :: (Esc.esc 0 [0, 255] s ++ [0, 0] ++ y)) = _
      rw [txt_esc, ih]; rfl
    · rw [if_neg hc]
      show txt (c :: (Esc.esc 0 [0, 255] s ++ [0, 0] ++ y)) = _
      rw [txt_byte hc, ih]; rfl
theorem txt_dec : ∀ (k : Nat) (b s y : List UInt8), b.length ≤ k → txt b = some (s, y) → b = Esc.esc 0 [0, 255] s ++ [0, 0] ++ y := by
  intro k
  induction k with
  | zero => intro b s y hk h; have : b = [] := List.eq_nil_of_length_eq_zero (by omega); subst this; rw [txt] at h; cases h
  | succ k ih =>
    intro b s y hk h
    match b, hk, h with
    | [], _, h => rw [txt] at h; cases h
    | c :: l, hk, h =>
      by_cases hc : c = 0
      · subst hc
        match l, hk, h with
        | [], _, h => rw [txt_one] at h; cases h
        | d :: r, hk, h =>
          by_cases h0 : d = 0
          · subst h0
            rw [txt_end] at h
            injection h with h; injection h with h1 h2; subst h1 h2
            rw [Esc.esc_nil]; rfl
          · by_cases h1 : d = 255
            · subst h1
              rw [txt_esc] at h
              cases hr : txt r with
              | none => rw [hr] at h; cases h
              | some v =>
                rw [hr] at h
                injection h with h; injection h with h2 h3; subst h2 h3
                have := ih r v.1 v.2 (by simp at hk; omega) hr
                rw [Esc.esc_cons, if_pos rfl]
                rw [this]; simp
            · rw [txt_bad h0 h1] at h; cases h
      · rw [txt_byte hc] at h
        cases hr : txt l with
        | none => rw [hr] at h; cases h
        | some v =>
          rw [hr] at h
          injection h with h; injection h with h2 h3; subst h2 h3
          have := ih l v.1 v.2 (by simp at hk; omega) hr
          rw [Esc.esc_cons, if_neg hc]
          rw [this]; simp
theorem tag_of {n : Nat} (h : n ≤ 8) : (UInt8.ofNat (16 + n)).toNat = 16 + n := by rw [UInt8.toNat_ofNat']; omega
theorem be_head (n : Nat) : (be n).head? ≠ some 0 := by
  induction n using Nat.strongRecOn with
  | ind n ih =>
    by_cases h0 : n = 0
    · subst h0; rw [be_zero]; simp
    · by_cases h1 : n / 256 = 0
      · rw [be_pos h0, h1, be_zero]
        simp only [List.nil_append, List.head?_cons]
        intro e
        injection e with e
        have := congrArg UInt8.toNat e
        rw [UInt8.toNat_ofNat'] at this
        have : (0 : UInt8).toNat = 0 := rfl
        omega
      · have := ih (n / 256) (by omega)
        rw [be_pos h0]
        cases hb : be (n / 256) with
        | nil =>
          have h2 := val_be (n / 256)
          rw [hb, val_nil] at h2
          omega
        | cons c l =>
          rw [hb] at this
          exact this
theorem one_key {p : Pt} (h : PtN p) (y : List UInt8) : one (partKey p ++ y) = some (p, y) := by
  obtain ⟨t, n, s⟩ := p
  obtain ⟨hn, ht, hf⟩ := h
  simp only at hn ht hf
  cases t with
  | true =>
    have := ht rfl
    subst this
    show one (32 :: (Esc.esc 0 [0, 255] s.data.toList ++ [0, 0] ++ y)) = _
    rw [one, if_pos rfl, txt_enc]
    simp
  | false =>
    have := hf rfl
    subst this
    have hl := be_len hn
    show one (UInt8.ofNat (16 + (be n).length) :: (be n ++ y)) = _
    have h32 : UInt8.ofNat (16 + (be n).length) ≠ 32 := by
      intro e; have := congrArg UInt8.toNat e; rw [tag_of hl] at this; have : (32 : UInt8).toNat = 32 := rfl; omega
    rw [one, if_neg h32, num, tag_of hl]
    have e1 : 16 + (be n).length - 16 = (be n).length := by omega
    have hh : ¬ (16 < 16 + (be n).length ∧ (be n ++ y).head? = some 0) := by
      rintro ⟨h1, h2⟩
      cases hb : be n with
      | nil => rw [hb] at h1; simp at h1
      | cons c l =>
        have := be_head n
        rw [hb] at this h2
        exact this h2
    have hneg : ¬ (16 + (be n).length < 16 ∨ 24 < 16 + (be n).length ∨ (be n ++ y).length < 16 + (be n).length - 16 ∨ 16 < 16 + (be n).length ∧ (be n ++ y).head? = some 0) := by
      rintro (h1 | h1 | h1 | h1)
      · omega
      · omega
      · rw [List.length_append] at h1; omega
      · exact hh h1
    rw [if_neg hneg, e1, List.take_left, List.drop_left, val_be]
theorem one_dec {b : List UInt8} {p : Pt} {y : List UInt8} (h : one b = some (p, y)) : b = partKey p ++ y ∧ PtN p := by
  cases b with
  | nil => rw [one] at h; cases h
  | cons t b =>
    rw [one] at h
    by_cases h32 : t = 32
    · rw [if_pos h32] at h
      cases hr : txt b with
      | none => rw [hr] at h; cases h
      | some v =>
        rw [hr] at h
        injection h with h; injection h with h2 h3; subst h2 h3
        have := txt_dec b.length b v.1 v.2 (Nat.le_refl _) hr
        refine ⟨?_, by show 0 < 18446744073709551616; omega, fun _ => rfl, fun h => by cases h⟩
        rw [h32]
        show 32 :: b = (32 :: (Esc.esc 0 [0, 255] v.1 ++ [0, 0])) ++ v.2
        rw [List.cons_append, ← this]
    · rw [if_neg h32, num] at h
      split at h
      · cases h
      · rename_i hc
        injection h with h; injection h with h2 h3; subst h2 h3
        have hw : t.toNat - 16 ≤ 8 := by omega
        have hlen : (b.take (t.toNat - 16)).length = t.toNat - 16 := by rw [List.length_take]; omega
        have hbe : be (val 0 (b.take (t.toNat - 16))) = b.take (t.toNat - 16) := by
          apply be_val
          rw [List.head?_take]
          split
          · simp
          · intro e
            exact hc (.inr (.inr (.inr ⟨by omega, e⟩)))
        refine ⟨?_, val_8 (by omega), (fun h => by cases h), fun _ => rfl⟩
        show t :: b = (UInt8.ofNat (16 + (be (val 0 (b.take (t.toNat - 16)))).length) :: be (val 0 (b.take (t.toNat - 16)))) ++ b.drop (t.toNat - 16)
        rw [hbe, hlen]
        have e1 : 16 + (t.toNat - 16) = t.toNat := by omega
        rw [e1, byte_self, List.cons_append, List.take_append_drop]

theorem key_cons (p : Pt) (l : List Pt) : key (p :: l) = partKey p ++ key l := rfl
theorem partKey_ne (p : Pt) : partKey p ≠ [] := by unfold partKey; split <;> simp
theorem key_nil {l : List Pt} (h : key l = []) : l = [] := by
  cases l with
  | nil => rfl
  | cons p l => rw [key_cons] at h; exact absurd (List.append_eq_nil_iff.1 h).1 (partKey_ne p)
def AllN (l : List Pt) : Prop := ∀ p ∈ l, PtN p
/-- What a key begins with. -/
theorem key_one {l : List Pt} {t : UInt8} {b : List UInt8} (hl : AllN l) (h : key l = t :: b) : ∃ p y l', one (t :: b) = some (p, y) ∧ l = p :: l' ∧ key l' = y := by
  cases l with
  | nil => rw [show key ([] : List Pt) = [] from rfl] at h; cases h
  | cons p l =>
    rw [key_cons] at h
    exact ⟨p, key l, l, by rw [← h]; exact one_key (hl p List.mem_cons_self) _, rfl, rfl⟩
theorem key_split : ∀ (out l : List Pt) (x : List UInt8), AllN out → AllN l → key l = key out ++ x → ∃ l', l = out ++ l' ∧ key l' = x ∧ AllN l' := by
  intro out
  induction out with
  | nil => intro l x _ hl h; exact ⟨l, rfl, h, hl⟩
  | cons o out ih =>
    intro l x ho hl h
    rw [key_cons, List.append_assoc] at h
    have h1 := one_key (ho o List.mem_cons_self) (key out ++ x)
    rw [← h] at h1
    cases l with
    | nil => rw [show key ([] : List Pt) = [] from rfl, one] at h1; cases h1
    | cons p l =>
      rw [key_cons, one_key (hl p List.mem_cons_self)] at h1
      injection h1 with h1; injection h1 with h2 h3
      subst h2
      obtain ⟨l', e1, e2, e3⟩ := ih l x (fun q hq => ho q (List.mem_cons_of_mem _ hq)) (fun q hq => hl q (List.mem_cons_of_mem _ hq)) h3
      exact ⟨l', by rw [e1]; rfl, e2, e3⟩
theorem key_inj {a b : List Pt} (ha : AllN a) (hb : AllN b) (h : key a = key b) : a = b := by
  obtain ⟨l', e1, e2, _⟩ := key_split b a [] hb ha (by rw [h]; simp)
  rw [key_nil e2] at e1
  simpa using e1
end Go.Proofs.YtgmnhdkdicgkcaaGreatDoor.Cod

namespace Go.Proofs.YtgmnhdkdicgkcaaGreatDoor.Cod
open Go.Op (bytesLess)

/-- Two lists part: a first place where they are unlike; the first one's byte there is the lower one, or not. -/
def Parts_ (lt : Bool) (x y : List UInt8) : Prop := ∃ pre c d r s, x = pre ++ c :: r ∧ y = pre ++ d :: s ∧ c ≠ d ∧ lt = decide (c < d)
theorem Parts_.cons {lt : Bool} {x y : List UInt8} (b : UInt8) (h : Parts_ lt x y) : Parts_ lt (b :: x) (b :: y) := by
  obtain ⟨pre, c, d, r, s, rfl, rfl, h1, h2⟩ := h
  exact ⟨b :: pre, c, d, r, s, rfl, rfl, h1, h2⟩
theorem Parts_.pre {lt : Bool} {x y : List UInt8} (p : List UInt8) (h : Parts_ lt x y) : Parts_ lt (p ++ x) (p ++ y) := by
  obtain ⟨pre, c, d, r, s, rfl, rfl, h1, h2⟩ := h
  exact ⟨p ++ pre, c, d, r, s, by simp, by simp, h1, h2⟩
theorem Parts_.post {lt : Bool} {x y : List UInt8} (p q : List UInt8) (h : Parts_ lt x y) : Parts_ lt (x ++ p) (y ++ q) := by
  obtain ⟨pre, c, d, r, s, rfl, rfl, h1, h2⟩ := h
  exact ⟨pre, c, d, r ++ p, s ++ q, by simp, by simp, h1, h2⟩
theorem Parts_.head {x y : List UInt8} {c d : UInt8} (h : c ≠ d) : Parts_ (decide (c < d)) (c :: x) (d :: y) := ⟨[], c, d, x, y, rfl, rfl, h, rfl⟩
theorem bytesLess_cons (a b : UInt8) (x y : List UInt8) : bytesLess (a :: x) (b :: y) = (decide (a < b) || (a == b && bytesLess x y)) := rfl
theorem bytesLess_same (p x y : List UInt8) : bytesLess (p ++ x) (p ++ y) = bytesLess x y := by
  induction p with
  | nil => rfl
  | cons b p ih =>
    rw [List.cons_append, List.cons_append, bytesLess_cons, ih]
    have : ¬ b < b := by rw [UInt8.lt_iff_toNat_lt]; omega
    simp [this]
theorem Parts_.less {lt : Bool} {x y : List UInt8} (h : Parts_ lt x y) : bytesLess x y = lt := by
  obtain ⟨pre, c, d, r, s, rfl, rfl, h1, rfl⟩ := h
  rw [bytesLess_same, bytesLess_cons]
  simp [h1]
theorem bytesLess_nil (x : List UInt8) : bytesLess x [] = false := by cases x <;> rfl
theorem bytesLess_nil_cons (b : UInt8) (x : List UInt8) : bytesLess [] (b :: x) = true := rfl

/-- Do two parts stand apart, and does the first stand ahead? -/
def ptSame (p q : Pt) : Bool := p.t == q.t && (if p.t then p.s.data.toList == q.s.data.toList else p.n == q.n)
def ptLess (p q : Pt) : Bool := if p.t != q.t then !p.t else if p.t then bytesLess p.s.data.toList q.s.data.toList else decide (p.n < q.n)
def less : List Pt → List Pt → Bool
  | [], [] => false
  | [], _ :: _ => true
  | _ :: _, [] => false
  | p :: a, q :: b => if ptSame p q then less a b else ptLess p q

/-- Texts. -/
def enc (s : List UInt8) : List UInt8 := Esc.esc 0 [0, 255] s ++ [0, 0]
theorem enc_cons (b : UInt8) (s : List UInt8) : enc (b :: s) = (if b = 0 then [0, 255] else [b]) ++ enc s := by unfold enc; rw [Esc.esc_cons, List.append_assoc]
theorem pos_of_ne {b : UInt8} (h : b ≠ 0) : 0 < b.toNat := by
  rcases Nat.eq_zero_or_pos b.toNat with h0 | h0
  · exact absurd (UInt8.toNat_inj.1 (by rw [h0]; rfl)) h
  · exact h0
theorem dec_lt {c d : UInt8} (b : Bool) (h : b = true ↔ c.toNat < d.toNat) : b = decide (c < d) := by
  rw [Bool.eq_iff_iff, h, decide_eq_true_iff, UInt8.lt_iff_toNat_lt]
theorem enc_parts : ∀ (s t : List UInt8), s ≠ t → Parts_ (bytesLess s t) (enc s) (enc t) := by
  intro s
  induction s with
  | nil =>
    intro t h
    match t, h with
    | b :: t, _ =>
      rw [enc_cons, bytesLess_nil_cons]
      by_cases hb : b = 0
      · rw [if_pos hb]
        exact ⟨[0], 0, 255, [], enc t, rfl, rfl, by decide, by decide⟩
      · rw [if_neg hb]
        exact ⟨[], 0, b, [0], enc t, rfl, rfl, fun e => hb e.symm, dec_lt _ (by have := pos_of_ne hb; simp; exact this)⟩
  | cons c s ih =>
    intro t h
    match t, h with
    | [], _ =>
      rw [enc_cons, bytesLess_nil]
      by_cases hc : c = 0
      · rw [if_pos hc]
        exact ⟨[0], 255, 0, enc s, [], rfl, rfl, by decide, by decide⟩
      · rw [if_neg hc]
        exact ⟨[], c, 0, enc s, [0], rfl, rfl, hc, dec_lt _ (by simp)⟩
    | d :: t, h =>
      rw [enc_cons, enc_cons]
      by_cases hcd : c = d
      · subst hcd
        have hst : s ≠ t := fun e => h (by rw [e])
        have := (ih t hst).pre (if c = 0 then [0, 255] else [c])
        have e := bytesLess_same [c] s t
        simp only [List.cons_append, List.nil_append] at e
        rw [e]
        exact this
      · have hl : bytesLess (c :: s) (d :: t) = decide (c < d) := by rw [bytesLess_cons]; simp [hcd]
        rw [hl]
        by_cases hc : c = 0
        · have hd : d ≠ 0 := fun e => hcd (by rw [hc, e])
          rw [if_pos hc, if_neg hd]
          exact ⟨[], 0, d, 255 :: enc s, enc t, rfl, rfl, fun e => hd e.symm, by rw [hc]⟩
        · rw [if_neg hc]
          by_cases hd : d = 0
          · rw [if_pos hd]
            exact ⟨[], c, 0, enc s, 255 :: enc t, rfl, rfl, hc, by rw [hd]⟩
          · rw [if_neg hd]
            exact ⟨[], c, d, enc s, enc t, rfl, rfl, hcd, rfl⟩

/-- Numbers. -/
theorem beW_parts : ∀ (w n m : Nat), n < 256 ^ w → m < 256 ^ w → n ≠ m → Parts_ (decide (n < m)) (beW w n) (beW w m) := by
  intro w
  induction w with
  | zero => intro n m hn hm h; simp at hn hm; omega
  | succ w ih =>
    intro n m hn hm h
    rw [Nat.pow_succ] at hn hm
    rw [beW, beW]
    by_cases hq : n / 256 = m / 256
    · rw [hq]
      have hne : UInt8.ofNat (n % 256) ≠ UInt8.ofNat (m % 256) := by
        intro e
        have := congrArg UInt8.toNat e
        rw [UInt8.toNat_ofNat', UInt8.toNat_ofNat'] at this
        omega
      have hp := (Parts_.head (x := []) (y := []) hne).pre (beW w (m / 256))
      have e : decide (UInt8.ofNat (n % 256) < UInt8.ofNat (m % 256)) = decide (n < m) := by
        rw [Bool.eq_iff_iff, decide_eq_true_iff, decide_eq_true_iff, UInt8.lt_iff_toNat_lt, UInt8.toNat_ofNat', UInt8.toNat_ofNat']
        omega
      rw [e] at hp
      exact hp
    · have hp := ih (n / 256) (m / 256) (by omega) (by omega) hq
      have e : decide (n / 256 < m / 256) = decide (n < m) := by
        rw [Bool.eq_iff_iff, decide_eq_true_iff, decide_eq_true_iff]; omega
      rw [e] at hp
      exact hp.post _ _
theorem be_mono (n : Nat) : ∀ m, n ≤ m → (be n).length ≤ (be m).length := by
  induction n using Nat.strongRecOn with
  | ind n ih =>
    intro m h
    by_cases h0 : n = 0
    · subst h0; rw [be_zero]; simp
    · have hm0 : m ≠ 0 := by omega
      rw [be_pos h0, be_pos (n := m) hm0, List.length_append, List.length_append]
      have := ih (n / 256) (by omega) (m / 256) (by omega)
      simpa using this
theorem be_pow (n : Nat) : n < 256 ^ (be n).length := by
  induction n using Nat.strongRecOn with
  | ind n ih =>
    by_cases h0 : n = 0
    · subst h0; rw [be_zero]; simp
    · rw [be_pos h0, List.length_append]
      have := ih (n / 256) (by omega)
      simp only [List.length_cons, List.length_nil, Nat.zero_add]
      rw [Nat.pow_succ]
      omega
theorem num_parts (n m : Nat) (hn : n < 18446744073709551616) (hm : m < 18446744073709551616) (h : n ≠ m) :
    Parts_ (decide (n < m)) (UInt8.ofNat (16 + (be n).length) :: be n) (UInt8.ofNat (16 + (be m).length) :: be m) := by
  have ln := be_len hn
  have lm := be_len hm
  by_cases hl : (be n).length = (be m).length
  · rw [hl]
    have hp := beW_parts (be m).length n m (by rw [← hl]; exact be_pow n) (be_pow m) h
    rw [← be_self m] at hp
    have e := be_self n
    rw [hl] at e
    rw [← e] at hp
    exact hp.cons _
  · have hne : UInt8.ofNat (16 + (be n).length) ≠ UInt8.ofNat (16 + (be m).length) := by
      intro e
      have := congrArg UInt8.toNat e
      rw [UInt8.toNat_ofNat', UInt8.toNat_ofNat'] at this
      omega
    have hp := Parts_.head (x := be n) (y := be m) hne
    have e : decide (UInt8.ofNat (16 + (be n).length) < UInt8.ofNat (16 + (be m).length)) = decide (n < m) := by
      rw [Bool.eq_iff_iff, decide_eq_true_iff, decide_eq_true_iff, UInt8.lt_iff_toNat_lt, UInt8.toNat_ofNat', UInt8.toNat_ofNat']
      have m1 := be_mono n m
      have m2 := be_mono m n
      omega
    rw [e] at hp
    exact hp

theorem part_same {p q : Pt} (h : ptSame p q = true) : partKey p = partKey q := by
  unfold ptSame at h
  rw [Bool.and_eq_true] at h
  obtain ⟨h1, h2⟩ := h
  have ht : p.t = q.t := by simpa using h1
  unfold partKey
  rw [← ht]
  cases hp : p.t with
  | true => rw [hp, if_pos rfl, beq_iff_eq] at h2; rw [h2]; simp
  | false => rw [hp, if_neg (by decide), beq_iff_eq] at h2; rw [h2]; simp
theorem part_parts {p q : Pt} (hp : p.n < 18446744073709551616) (hq : q.n < 18446744073709551616) (h : ptSame p q = false) : Parts_ (ptLess p q) (partKey p) (partKey q) := by
  unfold ptSame at h
  unfold ptLess partKey
  have l1 := be_len hp
  have l2 := be_len hq
  cases h1 : p.t <;> cases h2 : q.t <;> rw [h1, h2] at h
  · have h' : p.n ≠ q.n := fun e => by rw [e] at h; simp at h
    exact num_parts p.n q.n hp hq h'
  · have hne : UInt8.ofNat (16 + (be p.n).length) ≠ 32 := by
      intro e; have := congrArg UInt8.toNat e; rw [UInt8.toNat_ofNat'] at this; have : (32 : UInt8).toNat = 32 := rfl; omega
    have hx := Parts_.head (x := be p.n) (y := Esc.esc 0 [0, 255] q.s.data.toList ++ [0, 0]) hne
    have e : decide (UInt8.ofNat (16 + (be p.n).length) < 32) = true := by
      rw [decide_eq_true_iff, UInt8.lt_iff_toNat_lt, UInt8.toNat_ofNat']; have : (32 : UInt8).toNat = 32 := rfl; omega
    rw [e] at hx
    exact hx
  · have hne : (32 : UInt8) ≠ UInt8.ofNat (16 + (be q.n).length) := by
      intro e; have := congrArg UInt8.toNat e; rw [UInt8.toNat_ofNat'] at this; have : (32 : UInt8).toNat = 32 := rfl; omega
    have hx := Parts_.head (x := Esc.esc 0 [0, 255] p.s.data.toList ++ [0, 0]) (y := be q.n) hne
    have e : decide ((32 : UInt8) < UInt8.ofNat (16 + (be q.n).length)) = false := by
      rw [decide_eq_false_iff_not, UInt8.lt_iff_toNat_lt, UInt8.toNat_ofNat']; have : (32 : UInt8).toNat = 32 := rfl; omega
    rw [e] at hx
    exact hx
  · have h' : p.s.data.toList ≠ q.s.data.toList := fun e => by rw [e] at h; simp at h
    exact (enc_parts _ _ h').cons 32
/-- THE LAW: keys stand in the order of the lists of parts. -/
theorem key_order : ∀ (a b : List Pt), (∀ p ∈ a, p.n < 18446744073709551616) → (∀ p ∈ b, p.n < 18446744073709551616) → bytesLess (key a) (key b) = less a b := by
  intro a
  induction a with
  | nil =>
    intro b _ _
    match b with
    | [] => rfl
    | q :: b =>
      have : ∃ c r, key (q :: b) = c :: r := by
        unfold key partKey
        rw [List.flatMap_cons]
        split
        · exact ⟨_, _, rfl⟩
        · exact ⟨_, _, rfl⟩
      obtain ⟨c, r, e⟩ := this
      rw [e]; rfl
  | cons p a ih =>
    intro b ha hb
    match b, hb with
    | [], _ => rw [show key ([] : List Pt) = [] from rfl, bytesLess_nil]; rfl
    | q :: b, hb =>
      have e1 : key (p :: a) = partKey p ++ key a := rfl
      have e2 : key (q :: b) = partKey q ++ key b := rfl
      rw [e1, e2, less]
      cases h : ptSame p q with
      | true =>
        rw [part_same h, bytesLess_same, ih b (fun x hx => ha x (List.mem_cons_of_mem _ hx)) (fun x hx => hb x (List.mem_cons_of_mem _ hx))]
        rfl
      | false =>
        rw [((part_parts (ha p List.mem_cons_self) (hb q List.mem_cons_self) h).post _ _).less]
        rfl
end Go.Proofs.YtgmnhdkdicgkcaaGreatDoor.Cod

namespace Go.Proofs.YtgmnhdkdicgkcaaGreatDoor.Cod
open Go.Op (bytesLess)

theorem hi_head (n : Nat) : n ≠ 0 → ∃ c r, hi n = c :: r ∧ c ≠ 128 := by
  induction n using Nat.strongRecOn with
  | ind n ih =>
    intro h
    rw [hi_pos h]
    by_cases h1 : n / 128 = 0
    · rw [h1, hi_zero]
      refine ⟨UInt8.ofNat (n % 128 + 128), [], rfl, fun e => ?_⟩
      have := congrArg UInt8.toNat e
      rw [UInt8.toNat_ofNat'] at this
      have h128 : (128 : UInt8).toNat = 128 := rfl
      omega
    · obtain ⟨c, r, e, hc⟩ := ih (n / 128) (by omega) h1
      exact ⟨c, r ++ [UInt8.ofNat (n % 128 + 128)], by rw [e]; rfl, hc⟩
theorem z0_number (n : Nat) (r : List UInt8) : z0 (number n ++ r) = false ∨ hi (n / 128) = [] := by
  by_cases h : n / 128 = 0
  · right; rw [h, hi_zero]
  · left
    obtain ⟨c, l, e, hc⟩ := hi_head (n / 128) h
    unfold number
    rw [e]
    show (c == 128) = false
    simp [hc]
theorem tgo_hi (m : Nat) : m < 18446744073709551616 / 128 → ∀ (k : Nat) (l : List UInt8), ∃ j, tgo false k 0 (hi m ++ l) = tgo false j m l := by
  induction m using Nat.strongRecOn with
  | ind m ih =>
    intro hm k l
    by_cases h0 : m = 0
    · subst h0; rw [hi_zero]; exact ⟨k, rfl⟩
    · rw [hi_pos h0, List.append_assoc]
      obtain ⟨j, e⟩ := ih (m / 128) (by omega) (by omega) k ([UInt8.ofNat (m % 128 + 128)] ++ l)
      refine ⟨j + 1, ?_⟩
      rw [e]
      have hc : (UInt8.ofNat (m % 128 + 128)).toNat = m % 128 + 128 := by rw [UInt8.toNat_ofNat']; omega
      show tgo false j (m / 128) (UInt8.ofNat (m % 128 + 128) :: l) = _
      rw [tgo_on (by omega) (.inl rfl) (by omega), hc]
      congr 1; omega
theorem take_of {n : Nat} (h : n < 18446744073709551616) (r : List UInt8) : take (number n ++ r) = some (n, r) := by
  have hd : (UInt8.ofNat (n % 128)).toNat = n % 128 := by rw [UInt8.toNat_ofNat']; omega
  have key : ∀ j z, (z = false ∨ j = 0) → tgo z j (n / 128) (UInt8.ofNat (n % 128) :: r) = some (n, r) := by
    intro j z hz
    rw [tgo_end (by omega) hz (by omega), hd]
    congr 2; omega
  unfold take
  rcases z0_number n r with hz | hz
  · rw [hz]
    unfold number
    rw [List.append_assoc]
    obtain ⟨j, e⟩ := tgo_hi (n / 128) (by omega) 0 ([UInt8.ofNat (n % 128)] ++ r)
    rw [e]
    exact key j false (.inl rfl)
  · have h0 : n / 128 = 0 := by
      rcases Nat.eq_zero_or_pos (n / 128) with h0 | h0
      · exact h0
      · obtain ⟨c, l, e, _⟩ := hi_head (n / 128) (by omega)
        rw [hz] at e; cases e
    have := key 0 (z0 (number n ++ r)) (.inr rfl)
    rw [h0] at this
    unfold number
    rw [h0, hi_zero]
    have e2 : z0 (number n ++ r) = z0 ([] ++ [UInt8.ofNat (n % 128)] ++ r) := by unfold number; rw [h0, hi_zero]
    rw [e2] at this
    exact this
/-- A part as it is read back. -/
def norm (p : Pt) : Pt := if p.t then ⟨true, 0, p.s⟩ else ⟨false, p.n, .empty⟩
theorem norm_key (p : Pt) : partKey (norm p) = partKey p := by
  obtain ⟨t, n, s⟩ := p
  cases t <;> rfl
theorem key_norm (l : List Pt) : key (l.map norm) = key l := by
  induction l with
  | nil => rfl
  | cons p l ih => rw [List.map_cons, key_cons, key_cons, norm_key, ih]
theorem all_norm {l : List Pt} (h : ∀ p ∈ l, p.n < 18446744073709551616) : AllN (l.map norm) := by
  intro q hq
  rw [List.mem_map] at hq
  obtain ⟨p, hp, rfl⟩ := hq
  have hn := h p hp
  obtain ⟨t, n, s⟩ := p
  cases t with
  | true => exact ⟨by show 0 < 18446744073709551616; omega, fun _ => rfl, fun h => by cases h⟩
  | false => exact ⟨hn, (fun h => by cases h), fun _ => rfl⟩
theorem bytesLess_self (x : List UInt8) : bytesLess x x = false := by
  induction x with
  | nil => rfl
  | cons b x ih => rw [bytesLess_cons, ih]; simp
theorem less_of_key {a b : List Pt} (ha : ∀ p ∈ a, p.n < 18446744073709551616) (hb : ∀ p ∈ b, p.n < 18446744073709551616) (h : key a = key b) : less a b = false := by
  rw [← key_order a b ha hb, h, bytesLess_self]
end Go.Proofs.YtgmnhdkdicgkcaaGreatDoor.Cod
