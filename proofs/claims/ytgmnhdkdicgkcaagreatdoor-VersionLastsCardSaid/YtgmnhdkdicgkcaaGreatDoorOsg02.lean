/- Parts of the proof, one behind the other: Plain: merging two runs in place by turning (slices.SortStableFunc's parts): what each comes to. -/
import Derived.Test.YtgmnhdkdicgkcaaGreatDoorProg
import Derived.Sort.LotA
namespace Go.Proofs.YtgmnhdkdicgkcaaGreatDoor
open Go.Sort
namespace Sym
theorem SWO.asymm {β : Type} {lt : β → β → Bool} (hw : SWO lt) {x y : β} (h : lt x y = true) : lt y x = false := by
 cases h2 : lt y x with
 | false => rfl
 | true => have := hw.trans _ _ _ h h2; rw [hw.irrefl] at this; cases this
theorem le_trans_ {β : Type} {lt : β → β → Bool} (hw : SWO lt) {x y z : β} (h1 : lt y x = false) (h2 : lt z y = false) : lt z x = false := hw.ntrans z y x h2 h1
variable {α : Type} [Inhabited α]
theorem gt_eq (d : Array α) {i j : Nat} (h : i = j) : d[i]! = d[j]! := by rw [h]
theorem swp_at (d : Array α) {i j : Nat} (hi : i < d.size) (hj : j < d.size) (k : Nat) : (swp d i j)[k]! = if k = i then d[j]! else if k = j then d[i]! else d[k]! := by
 by_cases h1 : k = i
 · rw [if_pos h1, h1]
   by_cases h2 : i = j
   · subst h2; exact swp_right d i i hi
   · exact swp_left d i j hi h2
 · rw [if_neg h1]
   by_cases h2 : k = j
   · rw [if_pos h2, h2]; exact swp_right d i j hj
   · rw [if_neg h2]; exact swp_other d i j k h1 h2
def swapR (d : Array α) (a b : Nat) : Nat → Array α
 | 0 => d
 | n + 1 => swp (swapR d a b n) (a + n) (b + n)
theorem swapR_size (d : Array α) (a b n : Nat) : (swapR d a b n).size = d.size := by
 induction n with
 | zero => rfl
 | succ n ih => show (swp _ _ _).size = _; rw [size_swp, ih]
theorem swapR_at (d : Array α) {a b : Nat} : ∀ (n : Nat), a + n ≤ b → b + n ≤ d.size → ∀ k, (swapR d a b n)[k]! = if a ≤ k ∧ k < a + n then d[k - a + b]! else if b ≤ k ∧ k < b + n then d[k - b + a]! else d[k]! := by
 intro n
 induction n with
 | zero => intro _ _ k; rw [if_neg (by omega), if_neg (by omega)]; rfl
 | succ n ih =>
   intro h1 h2 k
   have ih := ih (by omega) (by omega)
   show (swp _ _ _)[k]! = _
   rw [swp_at _ (by rw [swapR_size]; omega) (by rw [swapR_size]; omega), ih, ih, ih]
   by_cases c1 : k = a + n
   · rw [if_pos c1, if_neg (by omega), if_neg (by omega), if_pos (by omega)]
     exact gt_eq d (by omega)
   · rw [if_neg c1]
     by_cases c2 : k = b + n
     · rw [if_pos c2, if_neg (by omega), if_neg (by omega), if_neg (by omega), if_pos (by omega)]
       exact gt_eq d (by omega)
     · rw [if_neg c2]
       by_cases c3 : a ≤ k ∧ k < a + n
       · rw [if_pos c3, if_pos (by omega)]
       · rw [if_neg c3]
         by_cases c4 : b ≤ k ∧ k < b + n
         · rw [if_pos c4, if_neg (show ¬ (a ≤ k ∧ k < a + (n + 1)) by omega), if_pos (by omega)]
         · rw [if_neg c4, if_neg (show ¬ (a ≤ k ∧ k < a + (n + 1)) by omega), if_neg (by omega)]
theorem swapR_perm (d : Array α) {a b lo hi : Nat} : ∀ (n : Nat), lo ≤ a → a + n ≤ b → b + n ≤ hi → hi ≤ d.size → PermIn lo hi d (swapR d a b n) := by
 intro n
 induction n with
 | zero => intro _ _ _ _; exact permIn_refl _ _ _
 | succ n ih =>
   intro h0 h1 h2 h3
   exact permIn_trans _ _ _ _ _ (ih h0 (by omega) (by omega) h3) (swp_permIn _ lo hi _ _ (by omega) (by omega) (by omega) (by omega) (by rw [swapR_size]; exact h3))
structure Rot (a m b : Nat) (d e : Array α) : Prop where
 size : e.size = d.size
 fst : ∀ k, a ≤ k → k < a + (b - m) → e[k]! = d[k + (m - a)]!
 snd : ∀ k, a + (b - m) ≤ k → k < b → e[k]! = d[k - (b - m)]!
 out : ∀ k, k < a ∨ b ≤ k → e[k]! = d[k]!
theorem Rot.left {m : Nat} (d : Array α) {a b : Nat} (h : m = a ∨ m = b) : Rot a m b d d := by
 refine ⟨rfl, fun k h1 h2 => gt_eq d (by omega), fun k h1 h2 => gt_eq d (by omega), fun _ _ => rfl⟩
theorem Rot.even {m i : Nat} (d : Array α) (hi : i ≤ m) (hm : m + i ≤ d.size) : Rot (m - i) m (m + i) d (swapR d (m - i) m i) := by
 have h := swapR_at d (a := m - i) (b := m) i (by omega) hm
 refine ⟨swapR_size _ _ _ _, fun k h1 h2 => ?_, fun k h1 h2 => ?_, fun k h1 => ?_⟩
 · rw [h, if_pos (by omega)]; exact gt_eq d (by omega)
 · rw [h, if_neg (by omega), if_pos (by omega)]; exact gt_eq d (by omega)
 · rw [h, if_neg (by omega), if_neg (by omega)]
theorem Rot.more {m i j : Nat} {d e : Array α} (hi : i ≤ m) (hij : j < i) (hm : m + j ≤ d.size) (h : Rot (m - (i - j)) m (m + j) (swapR d (m - i) m j) e) : Rot (m - i) m (m + j) d e := by
 have hs := swapR_at d (a := m - i) (b := m) j (by omega) hm
 refine ⟨by rw [h.size, swapR_size], fun k h1 h2 => ?_, fun k h1 h2 => ?_, fun k h1 => ?_⟩
 · rw [h.out k (by omega), hs, if_pos (by omega)]
   exact gt_eq d (by omega)
 · by_cases hk : k < m - (i - j) + (m + j - m)
   · rw [h.fst k (by omega) hk, hs, if_neg (by omega), if_pos (by omega)]
     exact gt_eq d (by omega)
   · rw [h.snd k (by omega) (by omega), hs, if_neg (by omega), if_neg (by omega)]
 · rw [h.out k (by omega), hs, if_neg (by omega), if_neg (by omega)]
theorem Rot.less {m i j : Nat} {d e : Array α} (hi : i ≤ m) (hij : i < j) (hm : m + j ≤ d.size) (h : Rot (m - i) m (m + (j - i)) (swapR d (m - i) (m + j - i) i) e) : Rot (m - i) m (m + j) d e := by
 have hs := swapR_at d (a := m - i) (b := m + j - i) i (by omega) (by omega)
 refine ⟨by rw [h.size, swapR_size], fun k h1 h2 => ?_, fun k h1 h2 => ?_, fun k h1 => ?_⟩
 · by_cases hk : k < m - i + (m + (j - i) - m)
   · rw [h.fst k (by omega) hk, hs, if_neg (by omega), if_neg (by omega)]
   · rw [h.snd k (by omega) (by omega), hs, if_pos (by omega)]
     exact gt_eq d (by omega)
 · rw [h.out k (by omega), hs, if_neg (by omega), if_pos (by omega)]
   exact gt_eq d (by omega)
 · rw [h.out k (by omega), hs, if_neg (by omega), if_neg (by omega)]
theorem Rot.up {a k : Nat} {d e : Array α} (hk : k + 1 < d.size) (hak : a ≤ k) (h : Rot a (a + 1) (k + 1) d e) : Rot a (a + 1) (k + 2) d (swp e k (k + 1)) := by
 have hs := swp_at e (i := k) (j := k + 1) (by rw [h.size]; omega) (by rw [h.size]; omega)
 refine ⟨by rw [size_swp, h.size], fun x h1 h2 => ?_, fun x h1 h2 => ?_, fun x h1 => ?_⟩
 · rw [hs]
   by_cases c : x = k
   · rw [if_pos c, h.out (k + 1) (by omega)]; exact gt_eq d (by omega)
   · rw [if_neg c, if_neg (by omega), h.fst x h1 (by omega)]
 · rw [hs, if_neg (by omega), if_pos (by omega), h.snd k (by omega) (by omega)]; exact gt_eq d (by omega)
 · rw [hs, if_neg (by omega), if_neg (by omega), h.out x (by omega)]
theorem Rot.down {m k : Nat} {d e : Array α} (hm : m < d.size) (hk : k + 1 ≤ m) (h : Rot (k + 1) m (m + 1) d e) : Rot k m (m + 1) d (swp e (k + 1) k) := by
 have hs := swp_at e (i := k + 1) (j := k) (by rw [h.size]; omega) (by rw [h.size]; omega)
 refine ⟨by rw [size_swp, h.size], fun x h1 h2 => ?_, fun x h1 h2 => ?_, fun x h1 => ?_⟩
 · rw [hs, if_neg (by omega), if_pos (by omega), h.fst (k + 1) (by omega) (by omega)]; exact gt_eq d (by omega)
 · rw [hs]
   by_cases c : x = k + 1
   · rw [if_pos c, h.out k (by omega)]; exact gt_eq d (by omega)
   · rw [if_neg c, if_neg (by omega), h.snd x (by omega) h2]
 · rw [hs, if_neg (by omega), if_neg (by omega), h.out x (by omega)]
section
variable {lt : α → α → Bool} {d e : Array α} {a m b : Nat}
theorem sorted_sub {a' b' : Nat} (h : SortedIn lt a b d) (h1 : a ≤ a') (h2 : b' ≤ b) : SortedIn lt a' b' d := fun i j x y z => h i j (by omega) y (by omega)
theorem sorted_le (hw : SWO lt) (h : SortedIn lt a b d) {i j : Nat} (h1 : a ≤ i) (h2 : i ≤ j) (h3 : j < b) : lt d[j]! d[i]! = false := by
 rcases Nat.lt_or_eq_of_le h2 with h | rfl
 · rename_i h'; exact h' i j h1 h h3
 · exact hw.irrefl _
theorem one_left (hw : SWO lt) {i : Nat} (hi : a + 1 ≤ i) (hib : i ≤ b) (hs : SortedIn lt (a + 1) b d) (h1 : i = a + 1 ∨ lt d[i - 1]! d[a]! = true) (h2 : i = b ∨ lt d[i]! d[a]! = false) (hr : Rot a (a + 1) i d e) : SortedIn lt a b e := by
 have up : ∀ k, i ≤ k → k < b → lt d[k]! d[a]! = false := fun k x y => by
   rcases h2 with h2 | h2
   · omega
   · exact le_trans_ hw h2 (sorted_le hw hs (by omega) x y)
 have dn : ∀ k, a + 1 ≤ k → k < i → lt d[a]! d[k]! = false := fun k x y => by
   rcases h1 with h1 | h1
   · omega
   · exact le_trans_ hw (sorted_le hw hs x (show k ≤ i - 1 by omega) (by omega)) (SWO.asymm hw h1)
 intro x y hx hxy hy
 have ex : (x < i - 1 → e[x]! = d[x + 1]!) ∧ (x = i - 1 → e[x]! = d[a]!) ∧ (i ≤ x → e[x]! = d[x]!) := ⟨fun h => by rw [hr.fst x hx (by omega)]; exact gt_eq d (by omega), fun h => by rw [hr.snd x (by omega) (by omega)]; exact gt_eq d (by omega), fun h => hr.out x (.inr h)⟩
 have ey : (y < i - 1 → e[y]! = d[y + 1]!) ∧ (y = i - 1 → e[y]! = d[a]!) ∧ (i ≤ y → e[y]! = d[y]!) := ⟨fun h => by rw [hr.fst y (by omega) (by omega)]; exact gt_eq d (by omega), fun h => by rw [hr.snd y (by omega) (by omega)]; exact gt_eq d (by omega), fun h => hr.out y (.inr h)⟩
 rcases Nat.lt_trichotomy x (i - 1) with c | c | c
 · rw [ex.1 c]
   rcases Nat.lt_trichotomy y (i - 1) with c2 | c2 | c2
   · rw [ey.1 c2]; exact hs _ _ (by omega) (by omega) (by omega)
   · rw [ey.2.1 c2]; exact dn _ (by omega) (by omega)
   · rw [ey.2.2 (by omega)]; exact hs _ _ (by omega) (by omega) (by omega)
 · rw [ex.2.1 c, ey.2.2 (by omega)]; exact up y (by omega) hy
 · rw [ex.2.2 (by omega), ey.2.2 (by omega)]; exact hs _ _ (by omega) hxy hy
theorem one_right (hw : SWO lt) {i : Nat} (hi : a ≤ i) (him : i ≤ m) (hs : SortedIn lt a m d) (h1 : i = a ∨ lt d[m]! d[i - 1]! = false) (h2 : i = m ∨ lt d[m]! d[i]! = true) (hr : Rot i m (m + 1) d e) : SortedIn lt a (m + 1) e := by
 have dn : ∀ k, a ≤ k → k < i → lt d[m]! d[k]! = false := fun k x y => by
   rcases h1 with h1 | h1
   · omega
   · exact le_trans_ hw (sorted_le hw hs x (show k ≤ i - 1 by omega) (by omega)) h1
 have up : ∀ k, i ≤ k → k < m → lt d[k]! d[m]! = false := fun k x y => by
   rcases h2 with h2 | h2
   · omega
   · exact le_trans_ hw (SWO.asymm hw h2) (sorted_le hw hs (by omega) x y)
 intro x y hx hxy hy
 have ex : (x < i → e[x]! = d[x]!) ∧ (x = i → e[x]! = d[m]!) ∧ (i < x → e[x]! = d[x - 1]!) := ⟨fun h => hr.out x (.inl h), fun h => by rw [hr.fst x (by omega) (by omega)]; exact gt_eq d (by omega), fun h => by rw [hr.snd x (by omega) (by omega)]; exact gt_eq d (by omega)⟩
 have ey : (y < i → e[y]! = d[y]!) ∧ (y = i → e[y]! = d[m]!) ∧ (i < y → e[y]! = d[y - 1]!) := ⟨fun h => hr.out y (.inl h), fun h => by rw [hr.fst y (by omega) (by omega)]; exact gt_eq d (by omega), fun h => by rw [hr.snd y (by omega) (by omega)]; exact gt_eq d (by omega)⟩
 rcases Nat.lt_trichotomy x i with c | c | c
 · rw [ex.1 c]
   rcases Nat.lt_trichotomy y i with c2 | c2 | c2
   · rw [ey.1 c2]; exact hs _ _ hx hxy (by omega)
   · rw [ey.2.1 c2]; exact dn _ hx c
   · rw [ey.2.2 c2]; exact hs _ _ hx (by omega) (by omega)
 · rw [ex.2.1 c, ey.2.2 (by omega)]; exact up _ (by omega) (by omega)
 · rw [ex.2.2 c, ey.2.2 (by omega)]; exact hs _ _ (by omega) (by omega) (by omega)
def lo (a m b : Nat) : Nat := if (a + b) / 2 < m then (a + b) / 2 + m - b else a
def hi (a m b : Nat) : Nat := if (a + b) / 2 < m then (a + b) / 2 else m
theorem cross (hw : SWO lt) {s t n mid : Nat} (_ham : a < m) (hmb : m < b) (hmid : mid = (a + b) / 2) (hn : n = mid + m) (hL : SortedIn lt a m d) (hR : SortedIn lt m b d) (h1 : lo a m b ≤ s) (h2 : s ≤ hi a m b) (ht : t = n - s)
   (h3 : s = lo a m b ∨ lt d[n - 1 - (s - 1)]! d[s - 1]! = false) (h4 : s = hi a m b ∨ lt d[n - 1 - s]! d[s]! = true) (hr : Rot s m t d e) :
   (∀ x y, a ≤ x → x < mid → mid ≤ y → y < b → lt e[y]! e[x]! = false) ∧ SortedIn lt a s e ∧ SortedIn lt s mid e ∧ SortedIn lt mid t e ∧ SortedIn lt t b e ∧ a ≤ s ∧ s ≤ m ∧ s ≤ mid ∧ m ≤ t ∧ mid ≤ t ∧ t ≤ b := by
 unfold lo at h1 h3
 unfold hi at h2 h4
 have hb : a ≤ s ∧ s ≤ m ∧ s ≤ mid ∧ m ≤ t ∧ mid ≤ t ∧ t ≤ b := by
   split at h1 <;> split at h2 <;> omega
 obtain ⟨b1, b2, b3, b4, b5, b6⟩ := hb
 have fx : ∀ x, a ≤ x → x < s → e[x]! = d[x]! := fun x _ h => hr.out x (.inl h)
 have fy : ∀ y, t ≤ y → y < b → e[y]! = d[y]! := fun y h _ => hr.out y (.inr h)
 have gx : ∀ x, s ≤ x → x < mid → e[x]! = d[x + (m - s)]! := fun x h h' => hr.fst x h (by omega)
 have gy : ∀ y, mid ≤ y → y < t → e[y]! = d[y - (t - m)]! := fun y h h' => hr.snd y (by omega) h'
 refine ⟨fun x y hx hxm hy hyb => ?_, fun i j x y z => ?_, fun i j x y z => ?_, fun i j x y z => ?_, fun i j x y z => ?_, b1, b2, b3, b4, b5, b6⟩
 · by_cases c1 : x < s
   · rw [fx x hx c1]
     by_cases c2 : y < t
     · rw [gy y hy c2]; exact hL _ _ hx (by omega) (by omega)
     · rw [fy y (by omega) hyb]
       rcases h3 with h3 | h3
       · exfalso; split at h3 <;> omega
       · have e1 : n - 1 - (s - 1) = t := by omega
         rw [e1] at h3
         exact le_trans_ hw (le_trans_ hw (sorted_le hw hL hx (show x ≤ s - 1 by omega) (by omega)) h3) (sorted_le hw hR b4 (by omega) hyb)
   · rw [gx x (by omega) hxm]
     by_cases c2 : y < t
     · rw [gy y hy c2]
       rcases h4 with h4 | h4
       · exfalso; split at h4 <;> omega
       · have e1 : n - 1 - s = t - 1 := by omega
         rw [e1] at h4
         exact le_trans_ hw (le_trans_ hw (sorted_le hw hR (by omega) (show x + (m - s) ≤ t - 1 by omega) (by omega)) (SWO.asymm hw h4)) (sorted_le hw hL (show a ≤ s by omega) (by omega) (by omega))
     · rw [fy y (by omega) hyb]; exact hR _ _ (by omega) (by omega) hyb
 · rw [fx i x (by omega), fx j (by omega) z]; exact hL _ _ x y (by omega)
 · rw [gx i x (by omega), gx j (by omega) z]; exact hR _ _ (by omega) (by omega) (by omega)
 · rw [gy i x (by omega), gy j (by omega) z]; exact hL _ _ (by omega) (by omega) (by omega)
 · rw [fy i x (by omega), fy j (by omega) z]; exact hR _ _ (by omega) y z
theorem halves {mid : Nat} {d1 d2 d3 : Array α} (hb : b ≤ d1.size) (_ham : a ≤ mid) (hmb : mid ≤ b) (hc : ∀ x y, a ≤ x → x < mid → mid ≤ y → y < b → lt d1[y]! d1[x]! = false) (p2 : PermIn a mid d1 d2) (s2 : SortedIn lt a mid d2) (p3 : PermIn mid b d2 d3) (s3 : SortedIn lt mid b d3) : SortedIn lt a b d3 := by
 have c2 : ∀ x y, a ≤ x → x < mid → mid ≤ y → y < b → lt d2[y]! d2[x]! = false := fun x y h1 h2 h3 h4 => by
   rw [p2.2.1 y (.inr h3)]
   exact permIn_all d1 d2 a mid (fun v => lt d1[y]! v = false) (by omega) p2 (fun i h5 h6 => hc i y h5 h6 h3 h4) x h1 h2
 have c3 : ∀ x y, a ≤ x → x < mid → mid ≤ y → y < b → lt d3[y]! d3[x]! = false := fun x y h1 h2 h3 h4 => by
   rw [p3.2.1 x (.inl h2)]
   exact permIn_all d2 d3 mid b (fun v => lt v d2[x]! = false) (by rw [p2.1]; exact hb) p3 (fun i h5 h6 => c2 x i h1 h2 h5 h6) y h3 h4
 intro x y hx hxy hy
 by_cases c : y < mid
 · rw [p3.2.1 x (.inl (by omega)), p3.2.1 y (.inl c)]; exact s2 x y hx hxy c
 · by_cases c' : x < mid
   · exact c3 x y hx c' (by omega) hy
   · exact s3 x y (by omega) hxy hy
end
end Sym
end Go.Proofs.YtgmnhdkdicgkcaaGreatDoor
