/- Parts of the proof, one behind the other: Contracts of package bytes at one byte: IndexByte, Count, Index, and Replace, ReplaceAll of one byte by some.; The contract of bytes.Compare.; Plain: a table's files, states, edits: which may be, what an edit makes of a state.; Plain: what a state that may be is like; a list in order is the only one.; bytes.Replace of one byte by two. -/
import Derived.Test.YtgmnhdkdicgkcaaGreatDoorOrg11
import Derived.Lib.BytesEntry
import Derived.Deep.RegionLaw
import Derived.Deep.RegionHeld
import Derived.Lib.Bytealg
import Derived.Test.YtgmnhdkdicgkcaaGreatDoorOrg05
import Derived.Deep.RegionHeldLaw
namespace Go.Proofs.YtgmnhdkdicgkcaaGreatDoor
open Go.RowKit
section
variable {P : Program} (w : World)
theorem run_bytesOf (B : Nat) (A : Option Addr) (c : Nat) (l : List UInt8) (h : RdB w B A l) : (Extern.Bytes.bytesOf (.slice A l.length c)).run P w = .ok ⟨l.toArray⟩ w := by
 rcases A with _ | ad
 · have hl : l = [] := by
     cases l with
     | nil => rfl
     | cons b l => obtain ⟨ad, h, _⟩ := h.2 (by simp); cases h
   subst hl
   rfl
 · have e : Lib.bytesOf (l.map fun b => (b.toNat : Int)) = l := by
     simp only [Lib.bytesOf, List.map_map]
     have : (fun n : Int => n.toNat.toUInt8) ∘ (fun b : UInt8 => (b.toNat : Int)) = id := by funext b; simp
     rw [this, List.map_id]
   have hc : ∀ j x, (l.map fun b => (b.toNat : Int))[j]? = some x → w.cell? (ad.add j) = some (.int .u8 x) := by
     intro j x hx
     have hj : j < l.length := by
       have := (List.getElem?_eq_some_iff.1 hx).1
       simpa using this
     obtain ⟨ad', h1, _, h2⟩ := h.cell hj
     injection h1 with h1; subst h1
     rw [h2]
     simp [hj] at hx
     rw [hx]
   have := Lib.run_loadBytesX (P := P) w (l.map fun b => (b.toNat : Int)) ad .empty hc
   rw [e, List.length_map] at this
   simp only [Extern.Bytes.bytesOf]
   rw [this]
   congr 1
   apply ByteArray.ext
   show (#[] : Array UInt8) ++ l.toArray = l.toArray
   simp
end
section
variable {P : Program} (w : World)
theorem run_compareX (B : Nat) (A : Option Addr) (c : Nat) (l : List UInt8) (h : RdB w B A l) (B2 : Nat) (A2 : Option Addr) (c2 : Nat) (m : List UInt8) (h2 : RdB w B2 A2 m) :
   (Extern.BytealgCompare.compare #[.slice A l.length c, .slice A2 m.length c2]).run P w = .ok (.int .i64 (Lib.compareBytes l m)) w := by
 have hl := run_bytesOf (P := P) w B A c l h
 have hm := run_bytesOf (P := P) w B2 A2 c2 m h2
 change Sem.run P (do pure (goInt (Extern.BytealgCompare.cmp (← Extern.Bytes.bytesOf (.slice A l.length c)) (← Extern.Bytes.bytesOf (.slice A2 m.length c2))))) w = _
 simp only [Sem.run_bind, Sem.run_pure, hl, hm, Result.andThen]
 rw [Lib.cmp_eq]
 rfl
end
set_option maxRecDepth 100000 in
theorem bcmp_any (B : Nat) (A : Option Addr) (c : Nat) (l : List UInt8) (B2 : Nat) (A2 : Option Addr) (c2 : Nat) (m : List UInt8) (w : World) (h : RdB w B A l) (h2 : RdB w B2 A2 m) :
   Calls Tryz.prog 49 #[.slice A l.length c, .slice A2 m.length c2] w fun e w' => e = .returned (.int .i64 (Lib.compareBytes l m)) ∧ w = w' := by
 have hx := run_compareX (P := Tryz.prog) w B A c l h B2 A2 c2 m h2
 go_enter Tryz.func49, Tryz.ntmps49
 go_wp2
 rw [run_callFunc_extern Tryz.func107 (by kernel_rfl) (by kernel_rfl) (by kernel_rfl) (e := Extern.BytealgCompare.compare) (by kernel_rfl), hx]
 simp only [Result.andThen]
 rw [Oper.upon_value]
 go_wp2
 go_ret
 exact ⟨rfl, rfl⟩
theorem compareBytes_zero (l m : List UInt8) : Lib.compareBytes l m = 0 ↔ l = m := by
 induction l generalizing m with
 | nil => cases m <;> simp [Lib.compareBytes]
 | cons a l ih =>
   cases m with
   | nil => simp [Lib.compareBytes]
   | cons b m =>
     unfold Lib.compareBytes
     by_cases h1 : a < b
     · simp [h1, UInt8.ne_of_lt h1]
     · by_cases h2 : b < a
       · simp [h1, h2, (UInt8.ne_of_lt h2).symm]
       · have e : a = b := UInt8.le_antisymm (UInt8.not_lt.1 h2) (UInt8.not_lt.1 h1)
         simp [e, ih]
theorem compareBytes_lt (l m : List UInt8) : Lib.compareBytes l m < 0 ↔ Op.bytesLess l m = true := by
 induction l generalizing m with
 | nil => cases m <;> simp [Lib.compareBytes, Op.bytesLess]
 | cons a l ih =>
   cases m with
   | nil => simp [Lib.compareBytes, Op.bytesLess]
   | cons b m =>
     unfold Lib.compareBytes Op.bytesLess
     by_cases h1 : a < b
     · simp [h1]
     · by_cases h2 : b < a
       · simp [h1, h2, (UInt8.ne_of_lt h2).symm]
       · have e : a = b := UInt8.le_antisymm (UInt8.not_lt.1 h2) (UInt8.not_lt.1 h1)
         simp [e, ih]
theorem compareBytes_neg (l m : List UInt8) : Lib.compareBytes m l = - Lib.compareBytes l m := by
 induction l generalizing m with
 | nil => cases m <;> simp [Lib.compareBytes]
 | cons a l ih =>
   cases m with
   | nil => simp [Lib.compareBytes]
   | cons b m =>
     unfold Lib.compareBytes
     by_cases h1 : a < b
     · have h3 : ¬ b < a := UInt8.lt_asymm h1
       simp [h1, h3]
     · by_cases h2 : b < a
       · simp [h1, h2]
       · simp [h1, h2, ih]
theorem compareBytes_le (l m : List UInt8) : Lib.compareBytes l m ≤ 0 ↔ Op.bytesLess m l = false := by
 have h := compareBytes_lt m l
 rw [compareBytes_neg l m] at h
 cases hb : Op.bytesLess m l with
 | true => rw [hb] at h; simp at h ⊢; omega
 | false => rw [hb] at h; simp at h ⊢; omega
theorem less_tri (a b : List UInt8) : Op.bytesLess a b = true ↔ Op.bytesLess b a = false ∧ (b == a) = false := by
 rw [← compareBytes_lt, ← compareBytes_le]
 have h0 := compareBytes_zero a b
 constructor
 · intro h
   refine ⟨by omega, ?_⟩
   rw [beq_eq_false_iff_ne]
   intro e
   have := h0.2 e.symm
   omega
 · intro ⟨h1, h2⟩
   rw [beq_eq_false_iff_ne] at h2
   have h3 : Lib.compareBytes a b ≠ 0 := fun e => h2 (h0.1 e).symm
   omega
end Go.Proofs.YtgmnhdkdicgkcaaGreatDoor
namespace Go.Proofs.YtgmnhdkdicgkcaaGreatDoor
namespace Ver
structure Fi where
 number : Int
 level : Int
 first : List UInt8
 last : List UInt8
 low : Int
 high : Int
structure Ss where
 files : List Fi
 log : Int
 next : Int
structure Ed where
 add : List Fi
 drop : List Int
 log : Int
 next : Int
def okF (f : Fi) : Bool := decide (1 ≤ f.number ∧ f.number ≤ 999999 ∧ 0 ≤ f.level ∧ f.level ≤ 3 ∧ 1 ≤ f.first.length ∧ f.first.length ≤ 512 ∧ 1 ≤ f.last.length ∧ f.last.length ≤ 512 ∧ 1 ≤ f.low ∧ f.low ≤ f.high ∧ f.high ≤ 1099511627776) && !(Op.bytesLess f.last f.first)
def ahead (a b : Fi) : Bool := if a.level ≠ b.level then decide (a.level < b.level) else if a.level = 0 then decide (b.number < a.number) else Op.bytesLess a.last b.first
def before (a b : Fi) : Bool := if a.level ≠ b.level then decide (a.level < b.level) else if a.level = 0 then decide (b.number < a.number) else Op.bytesLess a.first b.first
def fits (next : Int) (pre : List Fi) (f : Fi) : Bool := okF f && decide (f.number < next) && (match pre.getLast? with | none => true | some p => ahead p f) && pre.all (fun g => g.number != f.number)
def fitsAll (next : Int) : List Fi → List Fi → Bool
 | _, [] => true
 | pre, f :: r => fits next pre f && fitsAll next (pre ++ [f]) r
def right (s : Ss) : Bool := decide (s.files.length ≤ 50 ∧ 1 ≤ s.next ∧ s.next ≤ 999999 ∧ 0 ≤ s.log ∧ s.log ≤ 1099511627776) && fitsAll s.next [] s.files
def okN (n : Int) : Bool := decide (1 ≤ n ∧ n ≤ 999999)
def okE (e : Ed) : Bool := decide (e.add.length ≤ 50 ∧ e.drop.length ≤ 50 ∧ 0 ≤ e.log ∧ e.log ≤ 1099511627776 ∧ 0 ≤ e.next ∧ e.next ≤ 1099511627776) && (e.add.all okF && e.drop.all okN)
def drop1 (n : Int) (l : List Fi) : Option (List Fi) := if l.any (fun f => f.number == n) then some (l.eraseP (fun f => f.number == n)) else none
def dropAll : List Int → List Fi → Option (List Fi)
 | [], l => some l
 | n :: r, l => match drop1 n l with
   | none => none
   | some l' => dropAll r l'
def ins (f : Fi) : List Fi → List Fi
 | [] => [f]
 | g :: r => if before f g then f :: g :: r else g :: ins f r
def insAll (l add : List Fi) : List Fi := add.foldl (fun l f => ins f l) l
def none0 : Ss := ⟨[], 0, 0⟩
def apply (s : Ss) (e : Ed) : Int × Ss :=
 if right s = false ∨ okE e = false then (1, none0) else match dropAll e.drop s.files with
 | none => (4, none0)
 | some l => if 50 < l.length + e.add.length then (2, none0) else if e.log < s.log ∨ e.next < s.next ∨ right ⟨insAll l e.add, e.log, e.next⟩ = false then (10, none0) else (0, ⟨insAll l e.add, e.log, e.next⟩)
def icmp (a b : Int) : Int := if a < b then -1 else if b < a then 1 else 0
def place (a b : Fi) : Int := if a.level = 0 ∧ b.level = 0 then icmp b.number a.number else if icmp a.level b.level ≠ 0 then icmp a.level b.level else Lib.compareBytes a.first b.first
theorem icmp_neg (a b : Int) : icmp a b < 0 ↔ a < b := by
 unfold icmp
 split
 · omega
 · split <;> omega
theorem icmp_ne (a b : Int) : icmp a b ≠ 0 ↔ a ≠ b := by
 unfold icmp
 split
 · omega
 · split <;> omega
theorem place_neg (a b : Fi) : place a b < 0 ↔ before a b = true := by
 have hc := compareBytes_lt a.first b.first
 unfold place before
 by_cases h0 : a.level = 0 ∧ b.level = 0
 · obtain ⟨h1, h2⟩ := h0
   rw [if_pos ⟨h1, h2⟩, if_neg (show ¬ a.level ≠ b.level by omega), if_pos h1, decide_eq_true_iff]
   exact icmp_neg _ _
 · rw [if_neg h0]
   by_cases h1 : a.level = b.level
   · have h2 : ¬ a.level = 0 := by omega
     rw [if_neg (show ¬ icmp a.level b.level ≠ 0 by rw [icmp_ne]; omega), if_neg (show ¬ a.level ≠ b.level by omega), if_neg h2]
     exact hc
   · rw [if_pos (show icmp a.level b.level ≠ 0 by rw [icmp_ne]; exact h1), if_pos (show a.level ≠ b.level from h1), decide_eq_true_iff]
     exact icmp_neg _ _
theorem less_irrefl (x : List UInt8) : Op.bytesLess x x = false := by
 have h1 := (compareBytes_lt x x)
 have h2 := (compareBytes_zero x x).2 rfl
 rw [h2] at h1
 cases h : Op.bytesLess x x with
 | false => rfl
 | true => exact absurd (h1.2 h) (by omega)
theorem less_total {x y : List UInt8} (h1 : Op.bytesLess x y = false) (h2 : Op.bytesLess y x = false) : x = y := by
 refine (compareBytes_zero x y).1 ?_
 have a := compareBytes_lt x y
 have b := compareBytes_lt y x
 have c := compareBytes_neg x y
 rw [h1] at a
 rw [h2] at b
 have a' : ¬ Lib.compareBytes x y < 0 := fun h => by have := a.1 h; cases this
 have b' : ¬ Lib.compareBytes y x < 0 := fun h => by have := b.1 h; cases this
 omega
theorem less_trans : ∀ (a b c : List UInt8), Op.bytesLess a b = true → Op.bytesLess b c = true → Op.bytesLess a c = true
 | a, [], _, h, _ => by cases a <;> simp [Op.bytesLess] at h
 | _, _ :: _, [], _, h => by simp [Op.bytesLess] at h
 | [], _ :: _, _ :: _, _, _ => rfl
 | x :: a, y :: b, z :: c, h1, h2 => by
   simp only [Op.bytesLess, Bool.or_eq_true, Bool.and_eq_true, decide_eq_true_eq, beq_iff_eq] at h1 h2 ⊢
   rcases h1 with h1 | ⟨rfl, h1⟩
   · rcases h2 with h2 | ⟨rfl, h2⟩
     · left; rw [UInt8.lt_iff_toNat_lt] at *; omega
     · exact .inl h1
   · rcases h2 with h2 | ⟨rfl, h2⟩
     · exact .inl h2
     · exact .inr ⟨rfl, less_trans a b c h1 h2⟩
theorem before_irrefl (a : Fi) : before a a = false := by
 unfold before
 rw [if_neg (by simp)]
 split
 · simp
 · exact less_irrefl _
theorem before_trans {a b c : Fi} (h1 : before a b = true) (h2 : before b c = true) : before a c = true := by
 unfold before at *
 by_cases x : a.level = b.level
 · rw [if_neg (by omega)] at h1
   by_cases y : b.level = c.level
   · rw [if_neg (by omega)] at h2
     rw [if_neg (by omega)]
     by_cases z : a.level = 0
     · rw [if_pos z] at h1 ⊢
       rw [if_pos (by omega)] at h2
       simp only [decide_eq_true_eq] at *
       omega
     · rw [if_neg z] at h1 ⊢
       rw [if_neg (by omega)] at h2
       exact less_trans _ _ _ h1 h2
   · rw [if_pos y] at h2
     rw [if_pos (by omega), x]
     exact h2
 · rw [if_pos x] at h1
   simp only [decide_eq_true_eq] at h1
   by_cases y : b.level = c.level
   · rw [if_pos (by omega), decide_eq_true_eq]
     omega
   · rw [if_pos y] at h2
     simp only [decide_eq_true_eq] at h2
     rw [if_pos (by omega), decide_eq_true_eq]
     omega
theorem before_asymm {a b : Fi} (h : before a b = true) : before b a = false := by
 cases h2 : before b a with
 | false => rfl
 | true => have := before_trans h h2; rw [before_irrefl] at this; cases this
theorem before_neg_trans {a b c : Fi} (h1 : before b a = false) (h2 : before c b = false) : before c a = false := by
 unfold before at *
 by_cases x : a.level = b.level
 · rw [if_neg (by omega)] at h1
   by_cases y : b.level = c.level
   · rw [if_neg (by omega)] at h2
     rw [if_neg (by omega)]
     by_cases z : c.level = 0
     · rw [if_pos z] at h2 ⊢
       rw [if_pos (by omega)] at h1
       simp only [decide_eq_false_iff_not] at *
       omega
     · rw [if_neg z] at h2 ⊢
       rw [if_neg (by omega)] at h1
       cases h3 : Op.bytesLess c.first a.first with
       | false => rfl
       | true =>
         exfalso
         cases h4 : Op.bytesLess a.first b.first with
         | true => have := less_trans _ _ _ h3 h4; rw [this] at h2; cases h2
         | false =>
           have e := less_total h1 h4
           rw [e] at h2
           rw [h2] at h3; cases h3
   · rw [if_pos (by omega)] at h2
     rw [if_pos (by omega)]
     simp only [decide_eq_false_iff_not] at *
     omega
 · rw [if_pos (by omega)] at h1
   simp only [decide_eq_false_iff_not] at h1
   by_cases y : b.level = c.level
   · rw [if_pos (by omega), decide_eq_false_iff_not]
     omega
   · rw [if_pos (by omega)] at h2
     simp only [decide_eq_false_iff_not] at h2
     rw [if_pos (by omega), decide_eq_false_iff_not]
     omega
def Srd (l : List Fi) : Prop := l.Pairwise fun a b => before b a = false
theorem ins_perm (f : Fi) : ∀ l, (ins f l).Perm (f :: l)
 | [] => List.Perm.refl _
 | g :: r => by
   unfold ins
   split
   · exact List.Perm.refl _
   · exact ((ins_perm f r).cons g).trans (List.Perm.swap f g r)
theorem ins_srd (f : Fi) : ∀ l, Srd l → Srd (ins f l)
 | [], _ => List.pairwise_singleton _ _
 | g :: r, h => by
   obtain ⟨h1, h2⟩ := List.pairwise_cons.1 h
   unfold ins
   split
   · rename_i hb
     refine List.pairwise_cons.2 ⟨fun x hx => ?_, h⟩
     rcases List.mem_cons.1 hx with rfl | hx
     · exact before_asymm hb
     · exact before_neg_trans (before_asymm hb) (h1 x hx)
   · rename_i hb
     have hb : before f g = false := by simpa using hb
     refine List.pairwise_cons.2 ⟨fun x hx => ?_, ins_srd f r h2⟩
     rcases List.mem_cons.1 ((ins_perm f r).mem_iff.1 hx) with rfl | hx
     · exact hb
     · exact h1 x hx
theorem insAll_perm : ∀ (add l : List Fi), (insAll l add).Perm (l ++ add)
 | [], l => by rw [List.append_nil]; exact List.Perm.refl _
 | f :: r, l => by
   show (insAll (ins f l) r).Perm _
   refine (insAll_perm r (ins f l)).trans (((ins_perm f l).append_right r).trans ?_)
   exact (List.perm_middle (l₁ := l) (a := f) (l₂ := r)).symm
theorem insAll_srd : ∀ (add l : List Fi), Srd l → Srd (insAll l add)
 | [], _, h => h
 | f :: r, l, h => insAll_srd r (ins f l) (ins_srd f l h)
def Sto_ (l : List Fi) : Prop := l.Pairwise fun a b => before a b = true
theorem Sto_.srd {l : List Fi} (h : Sto_ l) : Srd l := h.imp (fun h => before_asymm h)
theorem Sto_.uniq {l m : List Fi} (h : Sto_ l) (hm : Srd m) (hp : l.Perm m) : l = m := by
 refine List.Perm.eq_of_pairwise (le := fun a b => before b a = false) (fun a b ha hb h1 h2 => ?_) h.srd hm hp
 have hb' : b ∈ l := hp.mem_iff.2 hb
 obtain ⟨i, hi, rfl⟩ := List.getElem_of_mem ha
 obtain ⟨j, hj, rfl⟩ := List.getElem_of_mem hb'
 rcases Nat.lt_trichotomy i j with hij | hij | hij
 · have := List.pairwise_iff_getElem.1 h i j hi hj hij
   rw [this] at h2; cases h2
 · subst hij; rfl
 · have := List.pairwise_iff_getElem.1 h j i hj hi hij
   rw [this] at h1; cases h1
end Ver
namespace Ver
theorem okF_first {f : Fi} (h : okF f = true) : Op.bytesLess f.last f.first = false := by
 unfold okF at h
 rw [Bool.and_eq_true] at h
 simpa using h.2
theorem okF_bd {f : Fi} (h : okF f = true) : 1 ≤ f.number ∧ f.number ≤ 999999 ∧ 0 ≤ f.level ∧ f.level ≤ 3 ∧ 1 ≤ f.first.length ∧ f.first.length ≤ 512 ∧ 1 ≤ f.last.length ∧ f.last.length ≤ 512 ∧ 1 ≤ f.low ∧ f.low ≤ f.high ∧ f.high ≤ 1099511627776 := by
 unfold okF at h
 rw [Bool.and_eq_true] at h
 exact of_decide_eq_true h.1
theorem ahead_before {a b : Fi} (ha : okF a = true) (h : ahead a b = true) : before a b = true := by
 unfold ahead at h
 unfold before
 by_cases x : a.level = b.level
 · rw [if_neg (by omega)] at h ⊢
   by_cases y : a.level = 0
   · rw [if_pos y] at h ⊢; exact h
   · rw [if_neg y] at h ⊢
     have h1 := okF_first ha
     cases h2 : Op.bytesLess a.first a.last with
     | true => exact less_trans _ _ _ h2 h
     | false => rw [less_total h2 h1]; exact h
 · rw [if_pos x] at h ⊢; exact h
structure Good (next : Int) (l : List Fi) : Prop where
 sto : Sto_ l
 ok : ∀ f ∈ l, okF f = true ∧ f.number < next
 dif : l.Pairwise fun a b => a.number ≠ b.number
theorem Good.nil (next : Int) : Good next [] := ⟨List.Pairwise.nil, (fun _ h => by cases h), List.Pairwise.nil⟩
theorem Good.snoc {next : Int} {l : List Fi} {f : Fi} (h : Good next l) (hf : fits next l f = true) : Good next (l ++ [f]) := by
 unfold fits at hf
 simp only [Bool.and_eq_true, decide_eq_true_eq, List.all_eq_true, bne_iff_ne, ne_eq] at hf
 obtain ⟨⟨⟨h1, h2⟩, h3⟩, h4⟩ := hf
 have hb : ∀ p ∈ l, before p f = true := by
   intro p hp
   rcases List.eq_nil_or_concat l with rfl | ⟨m, q, rfl⟩
   · cases hp
   · rw [List.concat_eq_append] at h3 hp h
     rw [List.getLast?_append] at h3
     simp only [List.getLast?_singleton, Option.some_or] at h3
     have hq := ahead_before (h.ok q (by simp)).1 h3
     rcases List.mem_append.1 hp with hp | hp
     · exact before_trans (List.pairwise_append.1 h.sto |>.2.2 p hp q (by simp)) hq
     · rw [List.mem_singleton] at hp; rw [hp]; exact hq
 refine ⟨List.pairwise_append.2 ⟨h.sto, List.pairwise_singleton _ _, fun p hp q hq => ?_⟩, fun g hg => ?_, List.pairwise_append.2 ⟨h.dif, List.pairwise_singleton _ _, fun p hp q hq => ?_⟩⟩
 · rw [List.mem_singleton] at hq; rw [hq]; exact hb p hp
 · rcases List.mem_append.1 hg with hg | hg
   · exact h.ok g hg
   · rw [List.mem_singleton] at hg; rw [hg]; exact ⟨h1, h2⟩
 · rw [List.mem_singleton] at hq; rw [hq]; exact h4 p hp
theorem fitsAll_good (next : Int) : ∀ (r pre : List Fi), Good next pre → fitsAll next pre r = true → Good next (pre ++ r)
 | [], pre, h, _ => by rw [List.append_nil]; exact h
 | f :: r, pre, h, hf => by
   unfold fitsAll at hf
   rw [Bool.and_eq_true] at hf
   have h1 := fitsAll_good next r (pre ++ [f]) (h.snoc hf.1) hf.2
   rw [List.append_assoc] at h1
   exact h1
theorem right_good {s : Ss} (h : right s = true) : Good s.next s.files ∧ s.files.length ≤ 50 ∧ 1 ≤ s.next ∧ s.next ≤ 999999 ∧ 0 ≤ s.log ∧ s.log ≤ 1099511627776 := by
 unfold right at h
 rw [Bool.and_eq_true, decide_eq_true_eq] at h
 have h1 := fitsAll_good s.next s.files [] (Good.nil _) h.2
 exact ⟨h1, h.1⟩
theorem right_perm {X Y : List Fi} {log next : Int} (hX : Srd X) (hY : Srd Y) (hp : X.Perm Y) : right ⟨X, log, next⟩ = right ⟨Y, log, next⟩ ∧ (right ⟨X, log, next⟩ = true → X = Y) := by
 have key : ∀ {A B : List Fi}, Srd B → A.Perm B → right ⟨A, log, next⟩ = true → A = B := fun hB hp h => (right_good h).1.sto.uniq hB hp
 refine ⟨?_, key hY hp⟩
 cases h1 : right ⟨X, log, next⟩ with
 | true => rw [← key hY hp h1]; exact h1.symm
 | false =>
   cases h2 : right ⟨Y, log, next⟩ with
   | false => rfl
   | true => rw [key hX hp.symm h2] at h2; rw [h2] at h1; cases h1
theorem erase_filter (n : Int) : ∀ (l : List Fi), (l.Pairwise fun a b => a.number ≠ b.number) → l.eraseP (fun f => f.number == n) = l.filter (fun f => f.number != n)
 | [], _ => rfl
 | f :: r, h => by
   obtain ⟨h1, h2⟩ := List.pairwise_cons.1 h
   by_cases hf : f.number = n
   · have e : r.filter (fun f => f.number != n) = r := by
       rw [List.filter_eq_self]
       intro g hg
       have := h1 g hg
       simp only [bne_iff_ne, ne_eq]
       omega
     rw [List.eraseP_cons_of_pos (by simpa using hf), List.filter_cons_of_neg (by simpa using hf), e]
   · rw [List.eraseP_cons_of_neg (by simpa using hf), List.filter_cons_of_pos (by simpa using hf), erase_filter n r h2]
theorem drop1_good {next n : Int} {l l' : List Fi} (h : Good next l) (hd : drop1 n l = some l') : Good next l' ∧ l'.length ≤ l.length ∧ l' = l.filter (fun f => f.number != n) := by
 unfold drop1 at hd
 split at hd
 · injection hd with hd
   subst hd
   have hs := List.eraseP_sublist (p := fun f : Fi => f.number == n) (l := l)
   exact ⟨⟨h.sto.sublist hs, fun f hf => h.ok f (hs.mem hf), h.dif.sublist hs⟩, hs.length_le, erase_filter n l h.dif⟩
 · cases hd
theorem dropAll_good {next : Int} : ∀ (d : List Int) (l l' : List Fi), Good next l → dropAll d l = some l' → Good next l' ∧ l'.length ≤ l.length
 | [], l, l', h, hd => by
   injection hd with hd
   subst hd
   exact ⟨h, Nat.le_refl _⟩
 | n :: r, l, l', h, hd => by
   unfold dropAll at hd
   cases h1 : drop1 n l with
   | none => rw [h1] at hd; cases hd
   | some m =>
     rw [h1] at hd
     obtain ⟨a, b, _⟩ := drop1_good h h1
     obtain ⟨c, d⟩ := dropAll_good r m l' a hd
     exact ⟨c, Nat.le_trans d b⟩
theorem apply_right {s : Ss} {e : Ed} (h : (apply s e).1 = 0) : right (apply s e).2 = true ∧ s.log ≤ e.log ∧ s.next ≤ e.next ∧ okE e = true ∧ right s = true := by
 unfold apply at h ⊢
 split
 · rename_i h1; rw [if_pos h1] at h; cases h
 · rename_i h1
   rw [if_neg h1] at h
   simp only [not_or, Bool.not_eq_false] at h1
   split
   · rename_i h2; rw [h2] at h; cases h
   · rename_i l h2
     rw [h2] at h
     simp only at h ⊢
     split
     · rename_i h3; rw [if_pos h3] at h; cases h
     · rename_i h3
       rw [if_neg h3] at h
       split
       · rename_i h4; rw [if_pos h4] at h; cases h
       · rename_i h4
         simp only [not_or, Int.not_lt, Bool.not_eq_false] at h4
         exact ⟨h4.2.2, h4.1, h4.2.1, h1.2, h1.1⟩
end Ver
end Go.Proofs.YtgmnhdkdicgkcaaGreatDoor
namespace Go.Proofs.YtgmnhdkdicgkcaaGreatDoor
open Go.RowKit
end Go.Proofs.YtgmnhdkdicgkcaaGreatDoor
