/- Plain: keys, as bytes, stand in the order of the lists of parts. -/
import Derived.Test.YtnlmiicbdhomaaaDoorKey
import Derived.Laws.Strings
namespace Go.Proofs.YtnlmiicbdhomaaaDoor.Cod
open Go.Op (bytesLess)

/-- Two lists part: a first place where they are unlike; the first one's byte there is the lower one, or not. -/
def Parts_ (lt : Bool) (x y : List UInt8) : Prop := ∃ pre c d r s, x = pre ++ c :: r ∧ y = pre ++ d :: s ∧ c ≠ d ∧ lt = decide (c < d)
theorem Parts_.cons {lt : Bool} {x y : List UInt8} (b : UInt8) (h : Parts_ lt x y) : Parts_ lt (b :: x) (b :: y) := by
  obtain ⟨pre, c, d, r, s, rfl, rfl, h1, h2⟩ := h
  exact ⟨b :: pre, c, d, r, s, rfl, rfl, h1, h2⟩
theorem Parts_.pre {lt : Bool} {x y : List UInt8} (p : List UInt8) (h : Parts_ lt x y) : Parts_ lt (p ++ x) (p ++ y) := by
  obtain ⟨pre, c, d, r, s, rfl, rfl, h1, h2⟩ := h
  exact ⟨p ++ pre, c, d, r, s, by simp, by simp, h1, h2⟩
theorem Parts_.post {lt : Bool} {x y : List UInt8} (p q : List UInt8) (h : Parts_ lt x y) : Parts_ lt (x ++ p) (y ++ q) := by
  obtain ⟨pre, c, d, r, s, rfl, rfl, h1, h2⟩ := h
  exact ⟨pre, c, d, r ++ p, s ++ q, by simp, by simp, h1, h2⟩
theorem Parts_.head {x y : List UInt8} {c d : UInt8} (h : c ≠ d) : Parts_ (decide (c < d)) (c :: x) (d :: y) := ⟨[], c, d, x, y, rfl, rfl, h, rfl⟩
theorem bytesLess_cons (a b : UInt8) (x y : List UInt8) : bytesLess (a :: x) (b :: y) = (decide (a < b) || (a == b && bytesLess x y)) := rfl
theorem bytesLess_same (p x y : List UInt8) : bytesLess (p ++ x) (p ++ y) = bytesLess x y := by
  induction p with
  | nil => rfl
  | cons b p ih =>
    rw [List.cons_append, List.cons_append, bytesLess_cons, ih]
    have : ¬ b < b := by rw [UInt8.lt_iff_toNat_lt]; omega
    simp [this]
theorem Parts_.less {lt : Bool} {x y : List UInt8} (h : Parts_ lt x y) : bytesLess x y = lt := by
  obtain ⟨pre, c, d, r, s, rfl, rfl, h1, rfl⟩ := h
  rw [bytesLess_same, bytesLess_cons]
  simp [h1]
theorem bytesLess_nil (x : List UInt8) : bytesLess x [] = false := by cases x <;> rfl
theorem bytesLess_nil_cons (b : UInt8) (x : List UInt8) : bytesLess [] (b :: x) = true := rfl

/-- Do two parts stand apart, and does the first stand ahead? -/
def ptSame (p q : Pt) : Bool := p.t == q.t && (if p.t then p.s.data.toList == q.s.data.toList else p.n == q.n)
def ptLess (p q : Pt) : Bool := if p.t != q.t then !p.t else if p.t then bytesLess p.s.data.toList q.s.data.toList else decide (p.n < q.n)
def less : List Pt → List Pt → Bool
  | [], [] => false
  | [], _ :: _ => true
  | _ :: _, [] => false
  | p :: a, q :: b => if ptSame p q then less a b else ptLess p q

/-- Texts. -/
def enc (s : List UInt8) : List UInt8 := Esc.esc 0 [0, 255] s ++ [0, 0]
theorem enc_cons (b : UInt8) (s : List UInt8) : enc (b :: s) = (if b = 0 then [0, 255] else [b]) ++ enc s := by unfold enc; rw [Esc.esc_cons, List.append_assoc]
theorem pos_of_ne {b : UInt8} (h : b ≠ 0) : 0 < b.toNat := by
  rcases Nat.eq_zero_or_pos b.toNat with h0 | h0
  · exact absurd (UInt8.toNat_inj.1 (by rw [h0]; rfl)) h
  · exact h0
theorem dec_lt {c d : UInt8} (b : Bool) (h : b = true ↔ c.toNat < d.toNat) : b = decide (c < d) := by
  rw [Bool.eq_iff_iff, h, decide_eq_true_iff, UInt8.lt_iff_toNat_lt]
theorem enc_parts : ∀ (s t : List UInt8), s ≠ t → Parts_ (bytesLess s t) (enc s) (enc t) := by
  intro s
  induction s with
  | nil =>
    intro t h
    match t, h with
    | b :: t, _ =>
      rw [enc_cons, bytesLess_nil_cons]
      by_cases hb : b = 0
      · rw [if_pos hb]
        exact ⟨[0], 0, 255, [], enc t, rfl, rfl, by decide, by decide⟩
      · rw [if_neg hb]
        exact ⟨[], 0, b, [0], enc t, rfl, rfl, fun e => hb e.symm, dec_lt _ (by have := pos_of_ne hb; simp; exact this)⟩
  | cons c s ih =>
    intro t h
    match t, h with
    | [], _ =>
      rw [enc_cons, bytesLess_nil]
      by_cases hc : c = 0
      · rw [if_pos hc]
        exact ⟨[0], 255, 0, enc s, [], rfl, rfl, by decide, by decide⟩
      · rw [if_neg hc]
        exact ⟨[], c, 0, enc s, [0], rfl, rfl, hc, dec_lt _ (by simp)⟩
    | d :: t, h =>
      rw [enc_cons, enc_cons]
      by_cases hcd : c = d
      · subst hcd
        have hst : s ≠ t := fun e => h (by rw [e])
        have := (ih t hst).pre (if c = 0 then [0, 255] else [c])
        have e := bytesLess_same [c] s t
        simp only [List.cons_append, List.nil_append] at e
        rw [e]
        exact this
      · have hl : bytesLess (c :: s) (d :: t) = decide (c < d) := by rw [bytesLess_cons]; simp [hcd]
        rw [hl]
        by_cases hc : c = 0
        · have hd : d ≠ 0 := fun e => hcd (by rw [hc, e])
          rw [if_pos hc, if_neg hd]
          exact ⟨[], 0, d, 255 :: enc s, enc t, rfl, rfl, fun e => hd e.symm, by rw [hc]⟩
        · rw [if_neg hc]
          by_cases hd : d = 0
          · rw [if_pos hd]
            exact ⟨[], c, 0, enc s, 255 :: enc t, rfl, rfl, hc, by rw [hd]⟩
          · rw [if_neg hd]
            exact ⟨[], c, d, enc s, enc t, rfl, rfl, hcd, rfl⟩

/-- Numbers. -/
theorem beW_parts : ∀ (w n m : Nat), n < 256 ^ w → m < 256 ^ w → n ≠ m → Parts_ (decide (n < m)) (beW w n) (beW w m) := by
  intro w
  induction w with
  | zero => intro n m hn hm h; simp at hn hm; omega
  | succ w ih =>
    intro n m hn hm h
    rw [Nat.pow_succ] at hn hm
    rw [beW, beW]
    by_cases hq : n / 256 = m / 256
    · rw [hq]
      have hne : UInt8.ofNat (n % 256) ≠ UInt8.ofNat (m % 256) := by
        intro e
        have := congrArg UInt8.toNat e
        rw [UInt8.toNat_ofNat', UInt8.toNat_ofNat'] at this
        omega
      have hp := (Parts_.head (x := []) (y := []) hne).pre (beW w (m / 256))
      have e : decide (UInt8.ofNat (n % 256) < UInt8.ofNat (m % 256)) = decide (n < m) := by
        rw [Bool.eq_iff_iff, decide_eq_true_iff, decide_eq_true_iff, UInt8.lt_iff_toNat_lt, UInt8.toNat_ofNat', UInt8.toNat_ofNat']
        omega
      rw [e] at hp
      exact hp
    · have hp := ih (n / 256) (m / 256) (by omega) (by omega) hq
      have e : decide (n / 256 < m / 256) = decide (n < m) := by
        rw [Bool.eq_iff_iff, decide_eq_true_iff, decide_eq_true_iff]; omega
      rw [e] at hp
      exact hp.post _ _
theorem be_mono (n : Nat) : ∀ m, n ≤ m → (be n).length ≤ (be m).length := by
  induction n using Nat.strongRecOn with
  | ind n ih =>
    intro m h
    by_cases h0 : n = 0
    · subst h0; rw [be_zero]; simp
    · have hm0 : m ≠ 0 := by omega
      rw [be_pos h0, be_pos (n := m) hm0, List.length_append, List.length_append]
      have := ih (n / 256) (by omega) (m / 256) (by omega)
      simpa using this
theorem be_pow (n : Nat) : n < 256 ^ (be n).length := by
  induction n using Nat.strongRecOn with
  | ind n ih =>
    by_cases h0 : n = 0
    · subst h0; rw [be_zero]; simp
    · rw [be_pos h0, List.length_append]
      have := ih (n / 256) (by omega)
      simp only [List.length_cons, List.length_nil, Nat.zero_add]
      rw [Nat.pow_succ]
      omega
theorem num_parts (n m : Nat) (hn : n < 18446744073709551616) (hm : m < 18446744073709551616) (h : n ≠ m) :
    Parts_ (decide (n < m)) (UInt8.ofNat (16 + (be n).length) :: be n) (UInt8.ofNat (16 + (be m).length) :: be m) := by
  have ln := be_len hn
  have lm := be_len hm
  by_cases hl : (be n).length = (be m).length
  · rw [hl]
    have hp := beW_parts (be m).length n m (by rw [← hl]; exact be_pow n) (be_pow m) h
    rw [← be_self m] at hp
    have e := be_self n
    rw [hl] at e
    rw [← e] at hp
    exact hp.cons _
  · have hne : UInt8.ofNat (16 + (be n).length) ≠ UInt8.ofNat (16 + (be m).length) := by
      intro e
      have := congrArg UInt8.toNat e
      rw [UInt8.toNat_ofNat', UInt8.toNat_ofNat'] at this
      omega
    have hp := Parts_.head (x := be n) (y := be m) hne
    have e : decide (UInt8.ofNat (16 + (be n).length) < UInt8.ofNat (16 + (be m).length)) = decide (n < m) := by
      rw [Bool.eq_iff_iff, decide_eq_true_iff, decide_eq_true_iff, UInt8.lt_iff_toNat_lt, UInt8.toNat_ofNat', UInt8.toNat_ofNat']
      have m1 := be_mono n m
      have m2 := be_mono m n
      omega
    rw [e] at hp
    exact hp

theorem part_same {p q : Pt} (h : ptSame p q = true) : partKey p = partKey q := by
  unfold ptSame at h
  rw [Bool.and_eq_true] at h
  obtain ⟨h1, h2⟩ := h
  have ht : p.t = q.t := by simpa using h1
  unfold partKey
  rw [← ht]
  cases hp : p.t with
  | true => rw [hp, if_pos rfl, beq_iff_eq] at h2; rw [h2]; simp
  | false => rw [hp, if_neg (by decide), beq_iff_eq] at h2; rw [h2]; simp
theorem part_parts {p q : Pt} (hp : p.n < 18446744073709551616) (hq : q.n < 18446744073709551616) (h : ptSame p q = false) : Parts_ (ptLess p q) (partKey p) (partKey q) := by
  unfold ptSame at h
  unfold ptLess partKey
  have l1 := be_len hp
  have l2 := be_len hq
  cases h1 : p.t <;> cases h2 : q.t <;> rw [h1, h2] at h
  · have h' : p.n ≠ q.n := fun e => by rw [e] at h; simp at h
    exact num_parts p.n q.n hp hq h'
  · have hne : UInt8.ofNat (16 + (be p.n).length) ≠ 32 := by
      intro e; have := congrArg UInt8.toNat e; rw [UInt8.toNat_ofNat'] at this; have : (32 : UInt8).toNat = 32 := rfl; omega
    have hx := Parts_.head (x := be p.n) (y := Esc.esc 0 [0, 255] q.s.data.toList ++ [0, 0]) hne
    have e : decide (UInt8.ofNat (16 + (be p.n).length) < 32) = true := by
      rw [decide_eq_true_iff, UInt8.lt_iff_toNat_lt, UInt8.toNat_ofNat']; have : (32 : UInt8).toNat = 32 := rfl; omega
    rw [e] at hx
    exact hx
  · have hne : (32 : UInt8) ≠ UInt8.ofNat (16 + (be q.n).length) := by
      intro e; have := congrArg UInt8.toNat e; rw [UInt8.toNat_ofNat'] at this; have : (32 : UInt8).toNat = 32 := rfl; omega
    have hx := Parts_.head (x := Esc.esc 0 [0, 255] p.s.data.toList ++ [0, 0]) (y := be q.n) hne
    have e : decide ((32 : UInt8) < UInt8.ofNat (16 + (be q.n).length)) = false := by
      rw [decide_eq_false_iff_not, UInt8.lt_iff_toNat_lt, UInt8.toNat_ofNat']; have : (32 : UInt8).toNat = 32 := rfl; omega
    rw [e] at hx
    exact hx
  · have h' : p.s.data.toList ≠ q.s.data.toList := fun e => by rw [e] at h; simp at h
    exact (enc_parts _ _ h').cons 32
/-- THE LAW: keys stand in the order of the lists of parts. -/
theorem key_order : ∀ (a b : List Pt), (∀ p ∈ a, p.n < 18446744073709551616) → (∀ p ∈ b, p.n < 18446744073709551616) → bytesLess (key a) (key b) = less a b := by
  intro a
  induction a with
  | nil =>
    intro b _ _
    match b with
    | [] => rfl
    | q :: b =>
      have : ∃ c r, key (q :: b) = c :: r := by
        unfold key partKey
        rw [List.flatMap_cons]
        split
        · exact ⟨_, _, rfl⟩
        · exact ⟨_, _, rfl⟩
      obtain ⟨c, r, e⟩ := this
      rw [e]; rfl
  | cons p a ih =>
    intro b ha hb
    match b, hb with
    | [], _ => rw [show key ([] : List Pt) = [] from rfl, bytesLess_nil]; rfl
    | q :: b, hb =>
      have e1 : key (p :: a) = partKey p ++ key a := rfl
      have e2 : key (q :: b) = partKey q ++ key b := rfl
      rw [e1, e2, less]
      cases h : ptSame p q with
      | true =>
        rw [part_same h, bytesLess_same, ih b (fun x hx => ha x (List.mem_cons_of_mem _ hx)) (fun x hx => hb x (List.mem_cons_of_mem _ hx))]
        rfl
      | false =>
        rw [((part_parts (ha p List.mem_cons_self) (hb q List.mem_cons_self) h).post _ _).less]
        rfl
end Go.Proofs.YtnlmiicbdhomaaaDoor.Cod
