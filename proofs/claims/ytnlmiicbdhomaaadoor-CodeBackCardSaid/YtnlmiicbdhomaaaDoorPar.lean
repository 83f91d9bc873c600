/- Plain: a part taken of bytes. -/
import Derived.Test.YtnlmiicbdhomaaaDoorKey
namespace Go.Proofs.YtnlmiicbdhomaaaDoor.Cod

def val (n : Nat) (l : List UInt8) : Nat := l.foldl (fun a c => a * 256 + c.toNat) n
theorem val_nil (n : Nat) : val n [] = n := rfl
theorem val_cons (n : Nat) (c : UInt8) (l : List UInt8) : val n (c :: l) = val (n * 256 + c.toNat) l := rfl
theorem val_append (n : Nat) (l m : List UInt8) : val n (l ++ m) = val (val n l) m := by simp [val]
theorem val_snoc (n : Nat) (l : List UInt8) (c : UInt8) : val n (l ++ [c]) = val n l * 256 + c.toNat := by rw [val_append]; rfl
theorem byte_self (c : UInt8) : UInt8.ofNat c.toNat = c := by simp
theorem be_val_pos : ∀ (l : List UInt8) (n : Nat), 0 < n → be (val n l) = be n ++ l := by
  intro l
  induction l with
  | nil => intro n _; rw [val_nil]; simp
  | cons c l ih =>
    intro n hn
    have hc := c.toNat_lt
    rw [val_cons, ih _ (by omega), be_pos (n := n * 256 + c.toNat) (by omega)]
    have e1 : (n * 256 + c.toNat) / 256 = n := by omega
    have e2 : (n * 256 + c.toNat) % 256 = c.toNat := by omega
    rw [e1, e2, byte_self]; simp
theorem be_val {l : List UInt8} (h : l.head? ≠ some 0) : be (val 0 l) = l := by
  cases l with
  | nil => exact be_zero
  | cons c l =>
    have hc : c ≠ 0 := fun e => h (by rw [e]; rfl)
    have hc0 : 0 < c.toNat := by
      rcases Nat.eq_zero_or_pos c.toNat with h0 | h0
      · exact absurd (UInt8.toNat_inj.1 (by rw [h0]; rfl)) hc
      · exact h0
    have hlt := c.toNat_lt
    rw [val_cons, be_val_pos _ _ (by omega), be_pos (n := 0 * 256 + c.toNat) (by omega)]
    have e1 : (0 * 256 + c.toNat) / 256 = 0 := by omega
    have e2 : (0 * 256 + c.toNat) % 256 = c.toNat := by omega
    rw [e1, e2, byte_self, be_zero]; simp
theorem val_be (n : Nat) : val 0 (be n) = n := by
  induction n using Nat.strongRecOn with
  | ind n ih =>
    by_cases h0 : n = 0
    · subst h0; rw [be_zero]; rfl
    · rw [be_pos h0, val_snoc, ih _ (by omega), UInt8.toNat_ofNat']; omega
theorem val_bound : ∀ (l : List UInt8) (n : Nat), val n l < (n + 1) * 256 ^ l.length := by
  intro l
  induction l with
  | nil => intro n; rw [val_nil]; simp
  | cons c l ih =>
    intro n
    have hc := c.toNat_lt
    have h := ih (n * 256 + c.toNat)
    rw [val_cons]
    have h2 : (n * 256 + c.toNat + 1) * 256 ^ l.length ≤ ((n + 1) * 256) * 256 ^ l.length := Nat.mul_le_mul_right _ (by omega)
    rw [List.length_cons, Nat.pow_succ, Nat.mul_comm (256 ^ l.length), ← Nat.mul_assoc]
    omega
theorem val_8 {l : List UInt8} (h : l.length ≤ 8) : val 0 l < 18446744073709551616 := by
  have h1 := val_bound l 0
  have h2 : (256 : Nat) ^ l.length ≤ 256 ^ 8 := Nat.pow_le_pow_right (by omega) h
  have h3 : (256 : Nat) ^ 8 = 18446744073709551616 := by decide
  omega

/-- A number's part behind its tag. -/
def num (t : UInt8) (b : List UInt8) : Option (Pt × List UInt8) :=
  if t.toNat < 16 ∨ 24 < t.toNat ∨ b.length < t.toNat - 16 ∨ (16 < t.toNat ∧ b.head? = some 0) then none
  else some (⟨false, val 0 (b.take (t.toNat - 16)), .empty⟩, b.drop (t.toNat - 16))
/-- A text's bytes behind its tag. -/
def txt : List UInt8 → Option (List UInt8 × List UInt8)
  | [] => none
  | c :: l => if c = 0 then (match l with | [] => none | d :: r => if d = 0 then some ([], r) else if d = 255 then (txt r).map (fun v => (0 :: v.1, v.2)) else none)
    else (txt l).map (fun v => (c :: v.1, v.2))
def one : List UInt8 → Option (Pt × List UInt8)
  | [] => none
  | t :: b => if t = 32 then (txt b).map (fun v => (⟨true, 0, ⟨v.1.toArray⟩⟩, v.2)) else num t b
/-- A part that is written in one way alone. -/
def PtN (p : Pt) : Prop := p.n < 18446744073709551616 ∧ (p.t = true → p.n = 0) ∧ (p.t = false → p.s = .empty)

theorem txt_end (r : List UInt8) : txt (0 :: 0 :: r) = some ([], r) := by rw [txt]; simp
theorem txt_esc (r : List UInt8) : txt (0 :: 255 :: r) = (txt r).map (fun v => (0 :: v.1, v.2)) := by rw [txt]; simp
theorem txt_byte {c : UInt8} (h : c ≠ 0) (r : List UInt8) : txt (c :: r) = (txt r).map (fun v => (c :: v.1, v.2)) := by rw [txt.eq_def]; simp [h]
theorem txt_one : txt [0] = none := by rw [txt]; simp
theorem txt_bad {d : UInt8} (h0 : d ≠ 0) (h1 : d ≠ 255) (r : List UInt8) : txt (0 :: d :: r) = none := by rw [txt]; simp [h0, h1]
theorem txt_enc (s y : List UInt8) : txt (Esc.esc 0 [0, 255] s ++ [0, 0] ++ y) = some (s, y) := by
  induction s with
  | nil => rw [Esc.esc_nil]; exact txt_end y
  | cons c s ih =>
    rw [Esc.esc_cons]
    by_cases hc : c = 0
    · subst hc
      rw [if_pos rfl]
      show txt (0 :: 255 :: (Esc.esc 0 [0, 255] s ++ [0, 0] ++ y)) = _
      rw [txt_esc, ih]; rfl
    · rw [if_neg hc]
      show txt (c :: (Esc.esc 0 [0, 255] s ++ [0, 0] ++ y)) = _
      rw [txt_byte hc, ih]; rfl
theorem txt_dec : ∀ (k : Nat) (b s y : List UInt8), b.length ≤ k → txt b = some (s, y) → b = Esc.esc 0 [0, 255] s ++ [0, 0] ++ y := by
  intro k
  induction k with
  | zero => intro b s y hk h; have : b = [] := List.eq_nil_of_length_eq_zero (by omega); subst this; rw [txt] at h; cases h
  | succ k ih =>
    intro b s y hk h
    match b, hk, h with
    | [], _, h => rw [txt] at h; cases h
    | c :: l, hk, h =>
      by_cases hc : c = 0
      · subst hc
        match l, hk, h with
        | [], _, h => rw [txt_one] at h; cases h
        | d :: r, hk, h =>
          by_cases h0 : d = 0
          · subst h0
            rw [txt_end] at h
            injection h with h; injection h with h1 h2; subst h1 h2
            rw [Esc.esc_nil]; rfl
          · by_cases h1 : d = 255
            · subst h1
              rw [txt_esc] at h
              cases hr : txt r with
              | none => rw [hr] at h; cases h
              | some v =>
                rw [hr] at h
                injection h with h; injection h with h2 h3; subst h2 h3
                have := ih r v.1 v.2 (by simp at hk; omega) hr
                rw [Esc.esc_cons, if_pos rfl]
                rw [this]; simp
            · rw [txt_bad h0 h1] at h; cases h
      · rw [txt_byte hc] at h
        cases hr : txt l with
        | none => rw [hr] at h; cases h
        | some v =>
          rw [hr] at h
          injection h with h; injection h with h2 h3; subst h2 h3
          have := ih l v.1 v.2 (by simp at hk; omega) hr
          rw [Esc.esc_cons, if_neg hc]
          rw [this]; simp
theorem tag_of {n : Nat} (h : n ≤ 8) : (UInt8.ofNat (16 + n)).toNat = 16 + n := by rw [UInt8.toNat_ofNat']; omega
theorem be_head (n : Nat) : (be n).head? ≠ some 0 := by
  induction n using Nat.strongRecOn with
  | ind n ih =>
    by_cases h0 : n = 0
    · subst h0; rw [be_zero]; simp
    · by_cases h1 : n / 256 = 0
      · rw [be_pos h0, h1, be_zero]
        simp only [List.nil_append, List.head?_cons]
        intro e
        injection e with e
        have := congrArg UInt8.toNat e
        rw [UInt8.toNat_ofNat'] at this
        have : (0 : UInt8).toNat = 0 := rfl
        omega
      · have := ih (n / 256) (by omega)
        rw [be_pos h0]
        cases hb : be (n / 256) with
        | nil =>
          have h2 := val_be (n / 256)
          rw [hb, val_nil] at h2
          omega
        | cons c l =>
          rw [hb] at this
          exact this
theorem one_key {p : Pt} (h : PtN p) (y : List UInt8) : one (partKey p ++ y) = some (p, y) := by
  obtain ⟨t, n, s⟩ := p
  obtain ⟨hn, ht, hf⟩ := h
  simp only at hn ht hf
  cases t with
  | true =>
    have := ht rfl
    subst this
    show one (32 :: (Esc.esc 0 [0, 255] s.data.toList ++ [0, 0] ++ y)) = _
    rw [one, if_pos rfl, txt_enc]
    simp
  | false =>
    have := hf rfl
    subst this
    have hl := be_len hn
    show one (UInt8.ofNat (16 + (be n).length) :: (be n ++ y)) = _
    have h32 : UInt8.ofNat (16 + (be n).length) ≠ 32 := by
      intro e; have := congrArg UInt8.toNat e; rw [tag_of hl] at this; have : (32 : UInt8).toNat = 32 := rfl; omega
    rw [one, if_neg h32, num, tag_of hl]
    have e1 : 16 + (be n).length - 16 = (be n).length := by omega
    have hh : ¬ (16 < 16 + (be n).length ∧ (be n ++ y).head? = some 0) := by
      rintro ⟨h1, h2⟩
      cases hb : be n with
      | nil => rw [hb] at h1; simp at h1
      | cons c l =>
        have := be_head n
        rw [hb] at this h2
        exact this h2
    have hneg : ¬ (16 + (be n).length < 16 ∨ 24 < 16 + (be n).length ∨ (be n ++ y).length < 16 + (be n).length - 16 ∨ 16 < 16 + (be n).length ∧ (be n ++ y).head? = some 0) := by
      rintro (h1 | h1 | h1 | h1)
      · omega
      · omega
      · rw [List.length_append] at h1; omega
      · exact hh h1
    rw [if_neg hneg, e1, List.take_left, List.drop_left, val_be]
theorem one_dec {b : List UInt8} {p : Pt} {y : List UInt8} (h : one b = some (p, y)) : b = partKey p ++ y ∧ PtN p := by
  cases b with
  | nil => rw [one] at h; cases h
  | cons t b =>
    rw [one] at h
    by_cases h32 : t = 32
    · rw [if_pos h32] at h
      cases hr : txt b with
      | none => rw [hr] at h; cases h
      | some v =>
        rw [hr] at h
        injection h with h; injection h with h2 h3; subst h2 h3
        have := txt_dec b.length b v.1 v.2 (Nat.le_refl _) hr
        refine ⟨?_, by show 0 < 18446744073709551616; omega, fun _ => rfl, fun h => by cases h⟩
        rw [h32]
        show 32 :: b = (32 :: (Esc.esc 0 [0, 255] v.1 ++ [0, 0])) ++ v.2
        rw [List.cons_append, ← this]
    · rw [if_neg h32, num] at h
      split at h
      · cases h
      · rename_i hc
        injection h with h; injection h with h2 h3; subst h2 h3
        have hw : t.toNat - 16 ≤ 8 := by omega
        have hlen : (b.take (t.toNat - 16)).length = t.toNat - 16 := by rw [List.length_take]; omega
        have hbe : be (val 0 (b.take (t.toNat - 16))) = b.take (t.toNat - 16) := by
          apply be_val
          rw [List.head?_take]
          split
          · simp
          · intro e
            exact hc (.inr (.inr (.inr ⟨by omega, e⟩)))
        refine ⟨?_, val_8 (by omega), (fun h => by cases h), fun _ => rfl⟩
        show t :: b = (UInt8.ofNat (16 + (be (val 0 (b.take (t.toNat - 16)))).length) :: be (val 0 (b.take (t.toNat - 16)))) ++ b.drop (t.toNat - 16)
        rw [hbe, hlen]
        have e1 : 16 + (t.toNat - 16) = t.toNat := by omega
        rw [e1, byte_self, List.cons_append, List.take_append_drop]

theorem key_cons (p : Pt) (l : List Pt) : key (p :: l) = partKey p ++ key l := rfl
theorem partKey_ne (p : Pt) : partKey p ≠ [] := by unfold partKey; split <;> simp
theorem key_nil {l : List Pt} (h : key l = []) : l = [] := by
  cases l with
  | nil => rfl
  | cons p l => rw [key_cons] at h; exact absurd (List.append_eq_nil_iff.1 h).1 (partKey_ne p)
def AllN (l : List Pt) : Prop := ∀ p ∈ l, PtN p
/-- What a key begins with. -/
theorem key_one {l : List Pt} {t : UInt8} {b : List UInt8} (hl : AllN l) (h : key l = t :: b) : ∃ p y l', one (t :: b) = some (p, y) ∧ l = p :: l' ∧ key l' = y := by
  cases l with
  | nil => rw [show key ([] : List Pt) = [] from rfl] at h; cases h
  | cons p l =>
    rw [key_cons] at h
    exact ⟨p, key l, l, by rw [← h]; exact one_key (hl p List.mem_cons_self) _, rfl, rfl⟩
theorem key_split : ∀ (out l : List Pt) (x : List UInt8), AllN out → AllN l → key l = key out ++ x → ∃ l', l = out ++ l' ∧ key l' = x ∧ AllN l' := by
  intro out
  induction out with
  | nil => intro l x _ hl h; exact ⟨l, rfl, h, hl⟩
  | cons o out ih =>
    intro l x ho hl h
    rw [key_cons, List.append_assoc] at h
    have h1 := one_key (ho o List.mem_cons_self) (key out ++ x)
    rw [← h] at h1
    cases l with
    | nil => rw [show key ([] : List Pt) = [] from rfl, one] at h1; cases h1
    | cons p l =>
      rw [key_cons, one_key (hl p List.mem_cons_self)] at h1
      injection h1 with h1; injection h1 with h2 h3
      subst h2
      obtain ⟨l', e1, e2, e3⟩ := ih l x (fun q hq => ho q (List.mem_cons_of_mem _ hq)) (fun q hq => hl q (List.mem_cons_of_mem _ hq)) h3
      exact ⟨l', by rw [e1]; rfl, e2, e3⟩
theorem key_inj {a b : List Pt} (ha : AllN a) (hb : AllN b) (h : key a = key b) : a = b := by
  obtain ⟨l', e1, e2, _⟩ := key_split b a [] hb ha (by rw [h]; simp)
  rw [key_nil e2] at e1
  simpa using e1
end Go.Proofs.YtnlmiicbdhomaaaDoor.Cod
