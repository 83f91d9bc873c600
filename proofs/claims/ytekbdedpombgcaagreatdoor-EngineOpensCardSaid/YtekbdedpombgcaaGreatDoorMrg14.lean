/- Parts of the proof, one behind the other: Plain lists: a byte of a list replaced by a list; splices. No Go in sight. -/
import Derived.Lib.Bytealg
import Derived.Laws.CopyOwn
namespace Go.Proofs.YtekbdedpombgcaaGreatDoor.Esc

/-- Each byte o replaced by nw. -/
def esc (o : UInt8) (nw l : List UInt8) : List UInt8 := l.flatMap fun b => if b = o then nw else [b]
theorem esc_append (o : UInt8) (nw l m : List UInt8) : esc o nw (l ++ m) = esc o nw l ++ esc o nw m := by simp [esc]
theorem esc_one (o : UInt8) (nw : List UInt8) : esc o nw [o] = nw := by simp [esc]
theorem esc_cons (o b : UInt8) (nw l : List UInt8) : esc o nw (b :: l) = (if b = o then nw else [b]) ++ esc o nw l := by simp [esc]
theorem esc_none (o : UInt8) (nw : List UInt8) : ∀ l : List UInt8, l.count o = 0 → esc o nw l = l := by
  intro l
  induction l with
  | nil => intro _; rfl
  | cons b l ih =>
    intro h
    have hb : ¬ b = o := by rintro rfl; simp at h
    rw [List.count_cons_of_ne hb] at h
    rw [esc_cons, if_neg hb, ih h]; rfl
theorem esc_len (o : UInt8) (nw : List UInt8) (hn : 1 ≤ nw.length) : ∀ l : List UInt8, (esc o nw l).length = l.length + l.count o * (nw.length - 1) := by
  intro l
  induction l with
  | nil => simp [esc]
  | cons b l ih =>
    rw [esc_cons, List.length_append, ih]
    by_cases hb : b = o
    · subst hb
      rw [if_pos rfl, List.count_cons_self, List.length_cons, Nat.add_mul]
      omega
    · rw [if_neg hb, List.count_cons_of_ne hb, List.length_cons]
      simp; omega
/-- Where the first one stands. -/
theorem index_split (o : UInt8) : ∀ l : List UInt8, 0 < l.count o → ∃ x y, l = x ++ o :: y ∧ x.count o = 0 ∧ Lib.indexByte l o = (x.length : Int) := by
  intro l
  induction l with
  | nil => intro h; simp at h
  | cons b l ih =>
    intro h
    by_cases hb : b = o
    · subst hb
      exact ⟨[], l, rfl, by simp, by simp [Lib.indexByte]⟩
    · rw [List.count_cons_of_ne hb] at h
      obtain ⟨x, y, rfl, hx, hi⟩ := ih h
      refine ⟨b :: x, y, rfl, by rw [List.count_cons_of_ne hb]; exact hx, ?_⟩
      have h1 : ¬ ((x.length : Int) == -1) = true := by simp
      simp only [Lib.indexByte, hi]
      rw [if_neg (by simpa using hb), if_neg h1]
      simp
theorem take_splice {α : Type} (L P cs : List α) (h : L.take P.length = P) : (splice L P.length cs).take (P.length + cs.length) = P ++ cs := by
  unfold splice
  rw [h, ← List.append_assoc, List.take_append_of_le_length (by simp)]
  exact List.take_of_length_le (by simp)
/-- What holds ahead of each round of bytes.Replace: the first st bytes are done, p bytes of the answer stand. -/
def Inv (o : UInt8) (nw l : List UInt8) (m k st p : Nat) (pre rest cur : List UInt8) : Prop :=
  st = pre.length ∧ p = (esc o nw pre).length ∧ l = pre ++ rest ∧ k + rest.count o = m ∧ cur.take p = esc o nw pre ∧ cur.length = l.length + m
theorem Inv.step {o : UInt8} {nw l : List UInt8} {m k st p : Nat} {pre rest cur x y L2 L3 : List UInt8} (h : Inv o nw l m k st p pre rest cur) (hxy : rest = x ++ o :: y) (hx0 : x.count o = 0) (hnw : nw.length = 2)
    (hfit : p + x.length + 2 ≤ l.length + m) (h2 : L2 = splice cur p x) (h3 : L3 = splice L2 (p + x.length) nw) : Inv o nw l m (k + 1) (st + x.length + 1) (p + x.length + 2) (pre ++ x ++ [o]) y L3 := by
  obtain ⟨h1, hp, hl, hm, ht, hc⟩ := h
  have he : esc o nw (pre ++ x ++ [o]) = esc o nw pre ++ x ++ nw := by rw [esc_append, esc_append, esc_none o nw x hx0, esc_one]
  have l2 : L2.length = l.length + m := by rw [h2, length_splice _ _ _ (by omega), hc]
  have t2 : L2.take (p + x.length) = esc o nw pre ++ x := by
    subst hp
    rw [h2]
    exact take_splice cur (esc o nw pre) x ht
  refine ⟨by simp; omega, by rw [he]; simp; omega, by rw [hl, hxy]; simp, ?_, ?_, ?_⟩
  · rw [hxy, List.count_append, List.count_cons_self, hx0] at hm; omega
  · rw [he, h3]
    have e1 : (esc o nw pre ++ x).length = p + x.length := by simp; omega
    have := take_splice L2 (esc o nw pre ++ x) nw (by rw [e1]; exact t2)
    rw [e1, hnw] at this
    exact this
  · rw [h3, length_splice _ _ _ (by omega), l2]
theorem Inv.last {o : UInt8} {nw l : List UInt8} {m st p : Nat} {pre rest cur L2 : List UInt8} (h : Inv o nw l m m st p pre rest cur) (hN : (esc o nw l).length = l.length + m) (h2 : L2 = splice cur p rest) :
    L2 = esc o nw l ∧ p + rest.length = l.length + m ∧ st + rest.length = l.length := by
  obtain ⟨h1, hp, hl, hm, ht, hc⟩ := h
  have h0 : rest.count o = 0 := by omega
  have he : esc o nw l = esc o nw pre ++ rest := by rw [hl, esc_append, esc_none o nw rest h0]
  have hlen : p + rest.length = l.length + m := by rw [← hN, he, List.length_append, ← hp]
  refine ⟨?_, hlen, by rw [h1]; have := congrArg List.length hl; simp at this; omega⟩
  subst hp
  have := take_splice cur (esc o nw pre) rest ht
  rw [← h2, hlen, ← he] at this
  rw [← this]
  refine (List.take_of_length_le ?_).symm
  rw [h2, length_splice _ _ _ (by omega), hc]
  exact Nat.le_refl _
end Go.Proofs.YtekbdedpombgcaaGreatDoor.Esc
