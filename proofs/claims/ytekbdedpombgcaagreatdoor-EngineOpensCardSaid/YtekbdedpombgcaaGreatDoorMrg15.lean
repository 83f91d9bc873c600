/- Parts of the proof, one behind the other: Contracts of package bytes at one byte: IndexByte, Count, Index, and Replace, ReplaceAll of one byte by some.; The contract of bytes.Compare.; Plain: a table's files, states, edits: which may be, what an edit makes of a state.; Plain: what a state that may be is like; a list in order is the only one.; bytes.Replace of one byte by two. -/
import Derived.Test.YtekbdedpombgcaaGreatDoorMrg02
import Derived.Test.YtekbdedpombgcaaGreatDoorMrg14
import Derived.Lib.BytesEntry
import Derived.Deep.RegionLaw
import Derived.Deep.RegionHeld
import Derived.Lib.Bytealg
import Derived.Test.YtekbdedpombgcaaGreatDoorMrg05
import Derived.Test.YtekbdedpombgcaaGreatDoorMrg01
import Derived.Deep.RegionHeldLaw
namespace Go.Proofs.YtekbdedpombgcaaGreatDoor
open Go.RowKit

section
variable {P : Program} (w : World)
theorem run_bytesOf (B : Nat) (A : Option Addr) (c : Nat) (l : List UInt8) (h : RdB w B A l) : (Extern.Bytes.bytesOf (.slice A l.length c)).run P w = .ok ⟨l.toArray⟩ w := by
  rcases A with _ | ad
  · have hl : l = [] := by
      cases l with
      | nil => rfl
      | cons b l => obtain ⟨ad, h, _⟩ := h.2 (by simp); cases h
    subst hl
    rfl
  · have e : Lib.bytesOf (l.map fun b => (b.toNat : Int)) = l := by
      simp only [Lib.bytesOf, List.map_map]
      have : (fun n : Int => n.toNat.toUInt8) ∘ (fun b : UInt8 => (b.toNat : Int)) = id := by funext b; simp
      rw [this, List.map_id]
    have hc : ∀ j x, (l.map fun b => (b.toNat : Int))[j]? = some x → w.cell? (ad.add j) = some (.int .u8 x) := by
      intro j x hx
      have hj : j < l.length := by
        have := (List.getElem?_eq_some_iff.1 hx).1
        simpa using this
      obtain ⟨ad', h1, _, h2⟩ := h.cell hj
      injection h1 with h1; subst h1
      rw [h2]
      simp [hj] at hx
      rw [hx]
    have := Lib.run_loadBytesX (P := P) w (l.map fun b => (b.toNat : Int)) ad .empty hc
    rw [e, List.length_map] at this
    simp only [Extern.Bytes.bytesOf]
    rw [this]
    congr 1
    apply ByteArray.ext
    show (#[] : Array UInt8) ++ l.toArray = l.toArray
    simp
theorem run_indexX (B : Nat) (A : Option Addr) (c : Nat) (l : List UInt8) (h : RdB w B A l) (b : UInt8) :
    (Extern.BytealgIndexByte.indexByte #[.slice A l.length c, .int .u8 (b.toNat : Int)]).run P w = .ok (.int .i64 (Lib.indexByte l b)) w := by
  have hl := run_bytesOf (P := P) w B A c l h
  have hs := Lib.run_indexByteString (P := P) ⟨l.toArray⟩ (b.toNat : Int) w
  have e : (b.toNat : Int).toNat.toUInt8 = b := by simp
  rw [e] at hs
  change Sem.run P (do
    let b ← Extern.Bytes.bytesOf (.slice A l.length c)
    let c ← Extern.Bytes.asByte (.int .u8 _)
    match (List.range b.size).find? fun i => b[i]! == c with
    | some i => pure (goInt i)
    | none => pure (goInt (-1))) w = _
  change Sem.run P (do
    let b ← Extern.Bytes.bytesOf (.string ⟨l.toArray⟩)
    let c ← Extern.Bytes.asByte (.int .u8 _)
    match (List.range b.size).find? fun i => b[i]! == c with
    | some i => pure (goInt i)
    | none => pure (goInt (-1))) w = _ at hs
  simp only [Sem.run_bind, hl, Result.andThen] at hs ⊢
  exact hs
theorem run_countX (B : Nat) (A : Option Addr) (c : Nat) (l : List UInt8) (h : RdB w B A l) (b : UInt8) :
    (Extern.BytealgCount.count #[.slice A l.length c, .int .u8 (b.toNat : Int)]).run P w = .ok (.int .i64 (l.count b : Int)) w := by
  have hl := run_bytesOf (P := P) w B A c l h
  have hs := Lib.run_countString (P := P) ⟨l.toArray⟩ (b.toNat : Int) w
  have e : (b.toNat : Int).toNat.toUInt8 = b := by simp
  rw [e] at hs
  change Sem.run P (do
    let b ← Extern.Bytes.bytesOf (.slice A l.length c)
    let c ← Extern.Bytes.asByte (.int .u8 _)
    pure (goInt (b.foldl (fun n x => if x == c then n + 1 else n) (0 : Nat)))) w = _
  change Sem.run P (do
    let b ← Extern.Bytes.bytesOf (.string ⟨l.toArray⟩)
    let c ← Extern.Bytes.asByte (.int .u8 _)
    pure (goInt (b.foldl (fun n x => if x == c then n + 1 else n) (0 : Nat)))) w = _ at hs
  simp only [Sem.run_bind, hl, Result.andThen] at hs ⊢
  exact hs
end

set_option maxRecDepth 100000 in
theorem indexByte_any (B : Nat) (A : Option Addr) (c : Nat) (l : List UInt8) (b : UInt8) (w : World) (h : RdB w B A l) :
    Calls Tryz.prog 212 #[.slice A l.length c, .int .u8 (b.toNat : Int)] w fun e w' => e = .returned (.int .i64 (Lib.indexByte l b)) ∧ w = w' := by
  have hx := run_indexX (P := Tryz.prog) w B A c l h b
  go_enter Tryz.func212, Tryz.ntmps212
  go_wp2
  rw [run_callFunc_extern Tryz.func244 (by kernel_rfl) (by kernel_rfl) (by kernel_rfl) (e := Extern.BytealgIndexByte.indexByte) (by kernel_rfl), hx]
  simp only [Result.andThen]
  rw [Oper.upon_value]
  go_wp2
  go_ret
  exact ⟨rfl, rfl⟩

set_option maxRecDepth 100000 in
theorem count_one (B : Nat) (A : Option Addr) (c g c2 : Nat) (l : List UInt8) (b : UInt8) (w : World) (h : RdB w B A l) (hc : w.cell? ⟨g, 0, none⟩ = some (.int .u8 (b.toNat : Int))) :
    Calls Tryz.prog 265 #[.slice A l.length c, .slice (some ⟨g, 0, none⟩) 1 c2] w fun e w' => e = .returned (.int .i64 (l.count b : Int)) ∧ w = w' := by
  have hx := run_countX (P := Tryz.prog) w B A c l h b
  go_enter Tryz.func265, Tryz.ntmps265
  go_wp2
  rw [run_callFunc_extern Tryz.func281 (by kernel_rfl) (by kernel_rfl) (by kernel_rfl) (e := Extern.BytealgCount.count) (by kernel_rfl), hx]
  simp only [Result.andThen]
  rw [Oper.upon_value]
  go_wp2
  go_ret
  exact ⟨rfl, rfl⟩

set_option maxRecDepth 100000 in
theorem index_one (B : Nat) (A : Option Addr) (c g c2 : Nat) (l : List UInt8) (b : UInt8) (w : World) (h : RdB w B A l) (hc : w.cell? ⟨g, 0, none⟩ = some (.int .u8 (b.toNat : Int))) :
    Calls Tryz.prog 266 #[.slice A l.length c, .slice (some ⟨g, 0, none⟩) 1 c2] w fun e w' => e = .returned (.int .i64 (Lib.indexByte l b)) ∧ w = w' := by
  go_enter Tryz.func266, Tryz.ntmps266
  go_wp2_with fail
  refine (indexByte_any B A c l b _ h).mono ?_
  rintro e w1 ⟨rfl, rfl⟩
  go_wp2_with fail
  go_ret
  exact ⟨rfl, rfl⟩

theorem index_one' (B : Nat) (A : Option Addr) (n c g c2 : Nat) (l : List UInt8) (b : UInt8) (w : World) (hn : n = l.length) (h : RdB w B A l) (hc : w.cell? ⟨g, 0, none⟩ = some (.int .u8 (b.toNat : Int))) (i : Int) (hi : Lib.indexByte l b = i) :
    Calls Tryz.prog 266 #[.slice A n c, .slice (some ⟨g, 0, none⟩) 1 c2] w fun e w' => e = .returned (.int .i64 i) ∧ w = w' := by
  subst hn hi
  exact index_one B A c g c2 l b w h hc

/-- A byte replaced by one byte or more: bytes.Replace(s, []byte{o}, nw, -1). -/
theorem replace_none (A : Option Addr) (c g c2 : Nat) (A3 : Option Addr) (c3 : Nat) (l nw : List UInt8) (o : UInt8) (w : World) (h : RdB w w.heap.size A l) (hc : w.cell? ⟨g, 0, none⟩ = some (.int .u8 (o.toNat : Int)))
    (h0 : l.count o = 0) (hlen : l.length ≤ 140737488355328) :
    Calls Tryz.prog 247 #[.slice A l.length c, .slice (some ⟨g, 0, none⟩) 1 c2, .slice A3 nw.length c3, .int .i64 (-1)] w fun e w' =>
      ∃ A' c', e = .returned (.slice A' l.length c') ∧ Own w' w.heap.size 5 A' c' l ∧ Below w.heap.size w w' := by
  have C := count_one w.heap.size A c g c2 l o w h hc
  rw [h0] at C
  have HC := Lib.hid C; clear C h0
  go_enter Tryz.func247, Tryz.ntmps247
  go_wp2_with fail
  refine HC.out.mono ?_
  rintro e w1 ⟨rfl, rfl⟩
  go_wp2_with (at_builtin; refine wpList_append_b _ rfl _ _ bt rfl w.heap.size none 0 [] rfl (Own.nil _ _ _) _ A l.length c l rfl rfl h (by simpa using hlen) (Nat.le_refl _) ?_; intro A' c' L' w2 hL ho1 hg1 _; have HL := Lib.hid hL; clear hL)
  go_ret
  have e : L' = l := by rw [HL.out]; rfl
  subst e
  exact ⟨A', c', rfl, ho1, (Below.refl _ _).grown hg1 (Nat.le_refl _) (fun k hk => by simp [blk] at hk)⟩
end Go.Proofs.YtekbdedpombgcaaGreatDoor

namespace Go.Proofs.YtekbdedpombgcaaGreatDoor
open Go.RowKit

section
variable {P : Program} (w : World)
theorem run_compareX (B : Nat) (A : Option Addr) (c : Nat) (l : List UInt8) (h : RdB w B A l) (B2 : Nat) (A2 : Option Addr) (c2 : Nat) (m : List UInt8) (h2 : RdB w B2 A2 m) :
    (Extern.BytealgCompare.compare #[.slice A l.length c, .slice A2 m.length c2]).run P w = .ok (.int .i64 (Lib.compareBytes l m)) w := by
  have hl := run_bytesOf (P := P) w B A c l h
  have hm := run_bytesOf (P := P) w B2 A2 c2 m h2
  change Sem.run P (do pure (goInt (Extern.BytealgCompare.cmp (← Extern.Bytes.bytesOf (.slice A l.length c)) (← Extern.Bytes.bytesOf (.slice A2 m.length c2))))) w = _
  simp only [Sem.run_bind, Sem.run_pure, hl, hm, Result.andThen]
  rw [Lib.cmp_eq]
  rfl
end
set_option maxRecDepth 100000 in
theorem bcmp_any (B : Nat) (A : Option Addr) (c : Nat) (l : List UInt8) (B2 : Nat) (A2 : Option Addr) (c2 : Nat) (m : List UInt8) (w : World) (h : RdB w B A l) (h2 : RdB w B2 A2 m) :
    Calls Tryz.prog 87 #[.slice A l.length c, .slice A2 m.length c2] w fun e w' => e = .returned (.int .i64 (Lib.compareBytes l m)) ∧ w = w' := by
  have hx := run_compareX (P := Tryz.prog) w B A c l h B2 A2 c2 m h2
  go_enter Tryz.func87, Tryz.ntmps87
  go_wp2
  rw [run_callFunc_extern Tryz.func171 (by kernel_rfl) (by kernel_rfl) (by kernel_rfl) (e := Extern.BytealgCompare.compare) (by kernel_rfl), hx]
  simp only [Result.andThen]
  rw [Oper.upon_value]
  go_wp2
  go_ret
  exact ⟨rfl, rfl⟩
theorem compareBytes_zero (l m : List UInt8) : Lib.compareBytes l m = 0 ↔ l = m := by
  induction l generalizing m with
  | nil => cases m <;> simp [Lib.compareBytes]
  | cons a l ih =>
    cases m with
    | nil => simp [Lib.compareBytes]
    | cons b m =>
      unfold Lib.compareBytes
      by_cases h1 : a < b
      · simp [h1, UInt8.ne_of_lt h1]
      · by_cases h2 : b < a
        · simp [h1, h2, (UInt8.ne_of_lt h2).symm]
        · have e : a = b := UInt8.le_antisymm (UInt8.not_lt.1 h2) (UInt8.not_lt.1 h1)
          simp [e, ih]
theorem compareBytes_lt (l m : List UInt8) : Lib.compareBytes l m < 0 ↔ Op.bytesLess l m = true := by
  induction l generalizing m with
  | nil => cases m <;> simp [Lib.compareBytes, Op.bytesLess]
  | cons a l ih =>
    cases m with
    | nil => simp [Lib.compareBytes, Op.bytesLess]
    | cons b m =>
      unfold Lib.compareBytes Op.bytesLess
      by_cases h1 : a < b
      · simp [h1]
      · by_cases h2 : b < a
        · simp [h1, h2, (UInt8.ne_of_lt h2).symm]
        · have e : a = b := UInt8.le_antisymm (UInt8.not_lt.1 h2) (UInt8.not_lt.1 h1)
          simp [e, ih]
theorem compareBytes_neg (l m : List UInt8) : Lib.compareBytes m l = - Lib.compareBytes l m := by
  induction l generalizing m with
  | nil => cases m <;> simp [Lib.compareBytes]
  | cons a l ih =>
    cases m with
    | nil => simp [Lib.compareBytes]
    | cons b m =>
      unfold Lib.compareBytes
      by_cases h1 : a < b
      · have h3 : ¬ b < a := UInt8.lt_asymm h1
        simp [h1, h3]
      · by_cases h2 : b < a
        · simp [h1, h2]
        · simp [h1, h2, ih]
theorem compareBytes_le (l m : List UInt8) : Lib.compareBytes l m ≤ 0 ↔ Op.bytesLess m l = false := by
  have h := compareBytes_lt m l
  rw [compareBytes_neg l m] at h
  cases hb : Op.bytesLess m l with
  | true => rw [hb] at h; simp at h ⊢; omega
  | false => rw [hb] at h; simp at h ⊢; omega
end Go.Proofs.YtekbdedpombgcaaGreatDoor

namespace Go.Proofs.YtekbdedpombgcaaGreatDoor
namespace Ver
structure Fi where
  number : Int
  level : Int
  first : List UInt8
  last : List UInt8
  low : Int
  high : Int
structure Ss where
  files : List Fi
  log : Int
  next : Int
structure Ed where
  add : List Fi
  drop : List Int
  log : Int
  next : Int
/-- May a file be? -/
def okF (f : Fi) : Bool := decide (1 ≤ f.number ∧ f.number ≤ 999999 ∧ 0 ≤ f.level ∧ f.level ≤ 3 ∧ 1 ≤ f.first.length ∧ f.first.length ≤ 512 ∧ 1 ≤ f.last.length ∧ f.last.length ≤ 512 ∧ 1 ≤ f.low ∧ f.low ≤ f.high ∧ f.high ≤ 1099511627776) && !(Op.bytesLess f.last f.first)
/-- Does a file stand ahead of another one? -/
def ahead (a b : Fi) : Bool := if a.level ≠ b.level then decide (a.level < b.level) else if a.level = 0 then decide (b.number < a.number) else Op.bytesLess a.last b.first
/-- Does it belong ahead of another one? -/
def before (a b : Fi) : Bool := if a.level ≠ b.level then decide (a.level < b.level) else if a.level = 0 then decide (b.number < a.number) else Op.bytesLess a.first b.first
/-- May a file stand behind those? -/
def fits (next : Int) (pre : List Fi) (f : Fi) : Bool := okF f && decide (f.number < next) && (match pre.getLast? with | none => true | some p => ahead p f) && pre.all (fun g => g.number != f.number)
def fitsAll (next : Int) : List Fi → List Fi → Bool
  | _, [] => true
  | pre, f :: r => fits next pre f && fitsAll next (pre ++ [f]) r
def right (s : Ss) : Bool := decide (s.files.length ≤ 50 ∧ 1 ≤ s.next ∧ s.next ≤ 999999 ∧ 0 ≤ s.log ∧ s.log ≤ 1099511627776) && fitsAll s.next [] s.files
def okN (n : Int) : Bool := decide (1 ≤ n ∧ n ≤ 999999)
def okE (e : Ed) : Bool := decide (e.add.length ≤ 50 ∧ e.drop.length ≤ 50 ∧ 0 ≤ e.log ∧ e.log ≤ 1099511627776 ∧ 0 ≤ e.next ∧ e.next ≤ 1099511627776) && (e.add.all okF && e.drop.all okN)
/-- A file of that number goes. -/
def drop1 (n : Int) (l : List Fi) : Option (List Fi) := if l.any (fun f => f.number == n) then some (l.eraseP (fun f => f.number == n)) else none
def dropAll : List Int → List Fi → Option (List Fi)
  | [], l => some l
  | n :: r, l => match drop1 n l with
    | none => none
    | some l' => dropAll r l'
def ins (f : Fi) : List Fi → List Fi
  | [] => [f]
  | g :: r => if before f g then f :: g :: r else g :: ins f r
def insAll (l add : List Fi) : List Fi := add.foldl (fun l f => ins f l) l
def none0 : Ss := ⟨[], 0, 0⟩
def apply (s : Ss) (e : Ed) : Int × Ss :=
  if right s = false ∨ okE e = false then (1, none0) else match dropAll e.drop s.files with
  | none => (4, none0)
  | some l => if 50 < l.length + e.add.length then (2, none0) else if e.log < s.log ∨ e.next < s.next ∨ right ⟨insAll l e.add, e.log, e.next⟩ = false then (10, none0) else (0, ⟨insAll l e.add, e.log, e.next⟩)
/-- As the program's comparison tells it. -/
def icmp (a b : Int) : Int := if a < b then -1 else if b < a then 1 else 0
def place (a b : Fi) : Int := if a.level = 0 ∧ b.level = 0 then icmp b.number a.number else if icmp a.level b.level ≠ 0 then icmp a.level b.level else Lib.compareBytes a.first b.first
theorem less_irrefl (x : List UInt8) : Op.bytesLess x x = false := by
  have h1 := (compareBytes_lt x x)
  have h2 := (compareBytes_zero x x).2 rfl
  rw [h2] at h1
  cases h : Op.bytesLess x x with
  | false => rfl
  | true => exact absurd (h1.2 h) (by omega)
theorem less_total {x y : List UInt8} (h1 : Op.bytesLess x y = false) (h2 : Op.bytesLess y x = false) : x = y := by
  refine (compareBytes_zero x y).1 ?_
  have a := compareBytes_lt x y
  have b := compareBytes_lt y x
  have c := compareBytes_neg x y
  rw [h1] at a
  rw [h2] at b
  have a' : ¬ Lib.compareBytes x y < 0 := fun h => by have := a.1 h; cases this
  have b' : ¬ Lib.compareBytes y x < 0 := fun h => by have := b.1 h; cases this
  omega
theorem less_trans : ∀ (a b c : List UInt8), Op.bytesLess a b = true → Op.bytesLess b c = true → Op.bytesLess a c = true
  | a, [], _, h, _ => by cases a <;> simp [Op.bytesLess] at h
  | _, _ :: _, [], _, h => by simp [Op.bytesLess] at h
  | [], _ :: _, _ :: _, _, _ => rfl
  | x :: a, y :: b, z :: c, h1, h2 => by
    simp only [Op.bytesLess, Bool.or_eq_true, Bool.and_eq_true, decide_eq_true_eq, beq_iff_eq] at h1 h2 ⊢
    rcases h1 with h1 | ⟨rfl, h1⟩
    · rcases h2 with h2 | ⟨rfl, h2⟩
      · left; rw [UInt8.lt_iff_toNat_lt] at *; omega
      · exact .inl h1
    · rcases h2 with h2 | ⟨rfl, h2⟩
      · exact .inl h2
      · exact .inr ⟨rfl, less_trans a b c h1 h2⟩
theorem before_irrefl (a : Fi) : before a a = false := by
  unfold before
  rw [if_neg (by simp)]
  split
  · simp
  · exact less_irrefl _
theorem before_trans {a b c : Fi} (h1 : before a b = true) (h2 : before b c = true) : before a c = true := by
  unfold before at *
  by_cases x : a.level = b.level
  · rw [if_neg (by omega)] at h1
    by_cases y : b.level = c.level
    · rw [if_neg (by omega)] at h2
      rw [if_neg (by omega)]
      by_cases z : a.level = 0
      · rw [if_pos z] at h1 ⊢
        rw [if_pos (by omega)] at h2
        simp only [decide_eq_true_eq] at *
        omega
      · rw [if_neg z] at h1 ⊢
        rw [if_neg (by omega)] at h2
        exact less_trans _ _ _ h1 h2
    · rw [if_pos y] at h2
      rw [if_pos (by omega), x]
      exact h2
  · rw [if_pos x] at h1
    simp only [decide_eq_true_eq] at h1
    by_cases y : b.level = c.level
    · rw [if_pos (by omega), decide_eq_true_eq]
      omega
    · rw [if_pos y] at h2
      simp only [decide_eq_true_eq] at h2
      rw [if_pos (by omega), decide_eq_true_eq]
      omega
theorem before_asymm {a b : Fi} (h : before a b = true) : before b a = false := by
  cases h2 : before b a with
  | false => rfl
  | true => have := before_trans h h2; rw [before_irrefl] at this; cases this
/-- In order, ties let be. -/
def Srd (l : List Fi) : Prop := l.Pairwise fun a b => before b a = false
/-- In strict order. -/
def Sto_ (l : List Fi) : Prop := l.Pairwise fun a b => before a b = true
theorem Sto_.srd {l : List Fi} (h : Sto_ l) : Srd l := h.imp (fun h => before_asymm h)
/-- A list in strict order is the only one of its kind. -/
theorem Sto_.uniq {l m : List Fi} (h : Sto_ l) (hm : Srd m) (hp : l.Perm m) : l = m := by
  refine List.Perm.eq_of_pairwise (le := fun a b => before b a = false) (fun a b ha hb h1 h2 => ?_) h.srd hm hp
  have hb' : b ∈ l := hp.mem_iff.2 hb
  obtain ⟨i, hi, rfl⟩ := List.getElem_of_mem ha
  obtain ⟨j, hj, rfl⟩ := List.getElem_of_mem hb'
  rcases Nat.lt_trichotomy i j with hij | hij | hij
  · have := List.pairwise_iff_getElem.1 h i j hi hj hij
    rw [this] at h2; cases h2
  · subst hij; rfl
  · have := List.pairwise_iff_getElem.1 h j i hj hi hij
    rw [this] at h1; cases h1
end Ver
end Go.Proofs.YtekbdedpombgcaaGreatDoor

namespace Go.Proofs.YtekbdedpombgcaaGreatDoor
namespace Ver
theorem okF_first {f : Fi} (h : okF f = true) : Op.bytesLess f.last f.first = false := by
  unfold okF at h
  rw [Bool.and_eq_true] at h
  simpa using h.2
theorem okF_bd {f : Fi} (h : okF f = true) : 1 ≤ f.number ∧ f.number ≤ 999999 ∧ 0 ≤ f.level ∧ f.level ≤ 3 ∧ 1 ≤ f.first.length ∧ f.first.length ≤ 512 ∧ 1 ≤ f.last.length ∧ f.last.length ≤ 512 ∧ 1 ≤ f.low ∧ f.low ≤ f.high ∧ f.high ≤ 1099511627776 := by
  unfold okF at h
  rw [Bool.and_eq_true] at h
  exact of_decide_eq_true h.1
theorem ahead_before {a b : Fi} (ha : okF a = true) (h : ahead a b = true) : before a b = true := by
  unfold ahead at h
  unfold before
  by_cases x : a.level = b.level
  · rw [if_neg (by omega)] at h ⊢
    by_cases y : a.level = 0
    · rw [if_pos y] at h ⊢; exact h
    · rw [if_neg y] at h ⊢
      have h1 := okF_first ha
      cases h2 : Op.bytesLess a.first a.last with
      | true => exact less_trans _ _ _ h2 h
      | false => rw [less_total h2 h1]; exact h
  · rw [if_pos x] at h ⊢; exact h
/-- What is known of files that may stand in a state. -/
structure Good (next : Int) (l : List Fi) : Prop where
  sto : Sto_ l
  ok : ∀ f ∈ l, okF f = true ∧ f.number < next
  dif : l.Pairwise fun a b => a.number ≠ b.number
theorem Good.nil (next : Int) : Good next [] := ⟨List.Pairwise.nil, (fun _ h => by cases h), List.Pairwise.nil⟩
theorem Good.snoc {next : Int} {l : List Fi} {f : Fi} (h : Good next l) (hf : fits next l f = true) : Good next (l ++ [f]) := by
  unfold fits at hf
  simp only [Bool.and_eq_true, decide_eq_true_eq, List.all_eq_true, bne_iff_ne, ne_eq] at hf
  obtain ⟨⟨⟨h1, h2⟩, h3⟩, h4⟩ := hf
  have hb : ∀ p ∈ l, before p f = true := by
    intro p hp
    rcases List.eq_nil_or_concat l with rfl | ⟨m, q, rfl⟩
    · cases hp
    · rw [List.concat_eq_append] at h3 hp h
      rw [List.getLast?_append] at h3
      simp only [List.getLast?_singleton, Option.some_or] at h3
      have hq := ahead_before (h.ok q (by simp)).1 h3
      rcases List.mem_append.1 hp with hp | hp
      · exact before_trans (List.pairwise_append.1 h.sto |>.2.2 p hp q (by simp)) hq
      · rw [List.mem_singleton] at hp; rw [hp]; exact hq
  refine ⟨List.pairwise_append.2 ⟨h.sto, List.pairwise_singleton _ _, fun p hp q hq => ?_⟩, fun g hg => ?_, List.pairwise_append.2 ⟨h.dif, List.pairwise_singleton _ _, fun p hp q hq => ?_⟩⟩
  · rw [List.mem_singleton] at hq; rw [hq]; exact hb p hp
  · rcases List.mem_append.1 hg with hg | hg
    · exact h.ok g hg
    · rw [List.mem_singleton] at hg; rw [hg]; exact ⟨h1, h2⟩
  · rw [List.mem_singleton] at hq; rw [hq]; exact h4 p hp
end Ver
end Go.Proofs.YtekbdedpombgcaaGreatDoor

namespace Go.Proofs.YtekbdedpombgcaaGreatDoor
open Go.RowKit

set_option maxHeartbeats 2000000 in
set_option maxRecDepth 100000 in
theorem replace_some (A : Option Addr) (c g c2 : Nat) (A3 : Option Addr) (c3 : Nat) (l nw : List UInt8) (o : UInt8) (w : World) (h : RdB w w.heap.size A l) (hlc : l.length ≤ c) (hcc : c ≤ 9223372036854775807) (hc : w.cell? ⟨g, 0, none⟩ = some (.int .u8 (o.toNat : Int)))
    (h3 : RdB w w.heap.size A3 nw) (hnw : nw.length = 2)
    (h0 : 0 < l.count o) (hlen : l.length ≤ 70368744177664) :
    Calls Tryz.prog 247 #[.slice A l.length c, .slice (some ⟨g, 0, none⟩) 1 c2, .slice A3 2 c3, .int .i64 (-1)] w fun e w' =>
      ∃ A' c', e = .returned (.slice A' (Esc.esc o nw l).length c') ∧ Own w' w.heap.size 5 A' c' (Esc.esc o nw l) ∧ Below w.heap.size w w' := by
  have C := count_one w.heap.size A c g c2 l o w h hc
  obtain ⟨m, hm⟩ : ∃ m, m = l.count o := ⟨_, rfl⟩
  have hmle : m ≤ l.length := by rw [hm]; exact List.count_le_length
  have hN : (Esc.esc o nw l).length = l.length + m := by rw [Esc.esc_len o nw (by omega), hnw, hm]; omega
  rw [← hm] at C h0
  have HM := Lib.hid hm; clear hm
  have HC := Lib.hid C; clear C
  have HN := Lib.hid hN; clear hN
  have HW := Lib.hid hnw; clear hnw
  have hm1 : ((m : Int) == 0) = false := by simp; omega
  go_enter Tryz.func247, Tryz.ntmps247
  go_wp2_with fail
  refine HC.out.mono ?_
  rintro e w1 ⟨rfl, rfl⟩
  go_wp2_with (at_make; refine wpList_make_b _ rfl _ _ bt rfl .i64 .i64 _ _ (l.length + m) rfl rfl (by first | rfl | omega) (by first | rfl | omega) (by omega) ?_; intro w1 Z hZ hB1 hb1 hs1; have HZ := Lib.hid hZ; clear hZ)
  go_loopw [11, 12, 49] (fun uw us uk wr => ∃ (k st p : Nat) (pre rest cur : List UInt8), k ≤ m ∧ st ≤ l.length ∧ p ≤ l.length + m ∧ uk = .int .i64 (k : Int) ∧ us = .int .i64 (st : Int) ∧ uw = .int .i64 (p : Int) ∧
      Hid (Esc.Inv o nw l m k st p pre rest cur) ∧ BlkB wr w.heap.size 5 cur ∧ Below w.heap.size w wr) (fun _ _ uk _ => m - (intOf uk).toNat)
  case atStart =>
    exact ⟨0, 0, 0, [], l, Z, by omega, by omega, by omega, rfl, rfl, rfl, Lib.hid ⟨rfl, rfl, rfl, by have := HM.out; omega, rfl, by rw [HZ.out]; simp⟩, hB1, hb1⟩
  case round =>
    clear hB1 hb1 hs1
    obtain ⟨k, st, p, pre, rest, cur, hk, hst, hp, rfl, rfl, rfl, HI, hB, hb⟩ := hrel
    have hc' : wr.cell? ⟨g, 0, none⟩ = some (.int .u8 (o.toNat : Int)) := (hb.cell (p := ⟨g, 0, none⟩) (World.block_lt_of_cell? w _ hc)).trans hc
    have hr := h.below hb (Nat.le_refl _)
    by_cases hlt : k < m
    · obtain ⟨x, y, hxy, hx0, hxi⟩ := Esc.index_split o rest (by have := HI.out.2.2.2.1; omega)
      have hrl : l.length - st = rest.length := by have := HI.out; rw [this.2.2.1, this.1, List.length_append]; omega
      have hdrop : l.drop st = rest := by have := HI.out; rw [this.2.2.1, this.1]; exact List.drop_left
      have hr2 := hr.drop (k := st) (cap := c) hst hlc
      rw [hdrop] at hr2
      have hrx : x.length + 1 ≤ rest.length := by rw [hxy]; simp
      have hrd2 : RdB wr w.heap.size (Option.map (fun a => a.add st) A) rest := by rw [if_neg (by omega)] at hr2; exact hr2
      have hrx2 : RdB wr w.heap.size (Option.map (fun a => a.add st) A) x := by
        have := hrd2.take (k := x.length) (by omega)
        rw [hxy, List.take_left] at this
        exact this
      have hst2 : st + x.length < l.length := by omega
      have hpN : p + x.length + 2 ≤ l.length + m := by
        have e1 := HN.out
        have e2 := HI.out
        rw [e2.2.2.1, hxy, Esc.esc_append, Esc.esc_append, Esc.esc_cons, if_pos rfl, Esc.esc_none o nw x hx0] at e1
        simp only [List.length_append, HW.out] at e1
        rw [← e2.2.1, ← List.length_append, ← List.length_append] at e1
        have e3 : l.length = (pre ++ (x ++ o :: y)).length := by rw [e2.2.2.1, hxy]
        simp only [List.length_append, List.length_cons] at e1 e3
        omega
      have HPN := Lib.hid hpN
      have hw1 : nw.length ≤ 2 := by have := HW.out; omega
      have hw2 : 2 ≤ nw.length := by have := HW.out; omega
      have HXI := Lib.hid hxi; clear hxi
      have HXY := Lib.hid hxy; clear hxy
      have HRL := Lib.hid hrl; clear hrl hdrop hr2
      have HX0 := Lib.hid hx0; clear hx0
      have hne1 : ¬ c = st := by omega
      have hne2 : ¬ l.length + m = p := by omega
      have hne3 : ¬ c = st + x.length := by omega
      go_wp2_with fail
      refine (index_one' w.heap.size _ _ _ _ _ rest o _ HRL.out hrd2 hc' _ HXI.out).mono ?_
      rintro e w1 ⟨rfl, rfl⟩
      go_wp2_with fail
      have hrw : (0 : Int) ≤ (p : Int) ∧ (p : Int) ≤ (l.length : Int) + (m : Int) ∧ (0 : Int) ≤ (st : Int) ∧ (st : Int) ≤ (st : Int) + (x.length : Int) ∧ (st : Int) + (x.length : Int) ≤ (c : Int) := by omega
      obtain ⟨i1, i2, i3, i4, i5⟩ := hrw
      go_region_held_law (fun _ => True) (trivial) ((refine step_copy_b _ rfl (.tmp 61) (.tmp 65) bt rfl _ _ _ _ _ _ (by rfl) (by rfl) w.heap.size p cur hB w.heap.size x (by first | rfl | omega) (by omega) (fun _ => by first | rfl | simp [Addr.add]) hrx2 (by have := HI.out.2.2.2.2.2; omega) ?_; intro w2 L2 hL2 hB2 hg2; have HL2 := Lib.hid hL2; clear hL2))
      have hgb2 : Below w.heap.size w w2 := (hb.drew).grown hg2 hb.size (fun k hk => by injection hk with hk; omega)
      have h32 := h3.below hgb2 (Nat.le_refl _)
      have hL2len : L2.length = l.length + m := by rw [HL2.out, splice_length _ _ _ (by have := HI.out.2.2.2.2.2; omega)]; exact HI.out.2.2.2.2.2
      have HLL := Lib.hid hL2len; clear hL2len hg2
      have hne4 : ¬ l.length + m = p + x.length := by omega
      go_wp2_with (with_reducible refine at_copy ?_; refine wpList_copy_b _ rfl (.tmp 71) (.tmp 72) bt rfl (some ⟨w.heap.size, p + x.length, none⟩) A3 (l.length + m - (p + x.length)) (l.length + m - (p + x.length)) 2 c3 rfl rfl w.heap.size (p + x.length) L2 hB2 w.heap.size nw HW.out.symm (by have := HW.out; omega) (fun _ => by first | rfl | simp [Addr.add]) h32 (by have := HLL.out; have := HW.out; omega) ?_; intro w3 L3 hL3 hB3 hg3; have HL3 := Lib.hid hL3; clear hL3)
      have hgb3 : Below w.heap.size w w3 := hgb2.grown hg3 hgb2.size (fun k hk => by injection hk with hk; omega)
      go_roundw
      case rel =>
        exact ⟨k + 1, st + x.length + 1, p + x.length + 2, pre ++ x ++ [o], y, L3, by omega, by omega, by have := HPN.out; omega, by go_num, by go_num, by go_num,
          Lib.hid (HI.out.step HXY.out HX0.out HW.out HPN.out HL2.out HL3.out), hB3, hgb3⟩
      case measure => simp [intOf]; omega
    · obtain rfl : k = m := by omega
      obtain ⟨hE, hpN, hsN⟩ := HI.out.last HN.out (L2 := splice cur p rest) rfl
      have hdrop : l.drop st = rest := by have := HI.out; rw [this.2.2.1, this.1]; exact List.drop_left
      have hr2 := hr.drop (k := st) (cap := c) hst hlc
      rw [hdrop] at hr2
      have HE := Lib.hid hE; clear hE hdrop
      have i1 : (0 : Int) ≤ (p : Int) ∧ (p : Int) ≤ (l.length : Int) + (k : Int) ∧ (0 : Int) ≤ (st : Int) ∧ (st : Int) ≤ (l.length : Int) := by omega
      obtain ⟨i1, i2, i3, i4⟩ := i1
      have hcl : cur.length = l.length + k := HI.out.2.2.2.2.2
      have HCL := Lib.hid hcl; clear hcl
      have PN := Lib.hid hpN; clear hpN
      have SN := Lib.hid hsN; clear hsN
      by_cases hlast : st < l.length
      · have hne1 : ¬ c = st := by omega
        have hne2 : ¬ l.length + k = p := by have := PN.out; have := SN.out; omega
        rw [if_neg hne1] at hr2
        go_wp2_with fail
        go_region_held_law (fun _ => True) (trivial) ((refine step_copy_b _ rfl (.tmp 123) (.tmp 126) bt rfl (some ⟨w.heap.size, p, none⟩) (Option.map (fun a => a.add st) A) (l.length + k - p) (l.length + k - p) (l.length - st) (c - st) (by rfl) (by rfl) w.heap.size p cur hB w.heap.size rest (by have := SN.out; omega) (by have := PN.out; omega) (fun _ => rfl) hr2 (by have := PN.out; have := HCL.out; omega) ?_; intro w2 L2 hL2 hB2 hg2; have HL2 := Lib.hid hL2; clear hL2))
        have hgb2 : Below w.heap.size w w2 := (hb.drew).grown hg2 hb.size (fun k hk => by injection hk with hk; omega)
        have hpr : p + rest.length ≤ l.length + k := by have := PN.out; omega
        have hpr2 : ((p : Int) + (rest.length : Int)).toNat = l.length + k := by have := PN.out; omega
        go_wp2
        go_ret
        have e2 : L2 = Esc.esc o nw l := by rw [HL2.out]; exact HE.out
        refine ⟨_, _, ret_slice HN.out.symm, ?_, hgb2⟩
        rw [← e2]
        have hlen2 : L2.length = l.length + k := by rw [e2]; exact HN.out
        rw [← hlen2]
        exact hB2.own (Nat.le_refl _) (by omega)
      · have hrest : rest = [] := List.eq_nil_of_length_eq_zero (by have := SN.out; omega)
        subst hrest
        obtain rfl : p = l.length + k := by have := PN.out; simpa using this
        obtain rfl : st = l.length := by omega
        by_cases hcs : c = l.length
        · subst hcs
          go_wp2_with fail
          go_region_held_law (fun _ => True) (trivial) ((refine step_copy_b _ rfl (.tmp 123) (.tmp 126) bt rfl (some ⟨w.heap.size, 0, none⟩) A 0 0 0 0 (by rfl) (by rfl) w.heap.size (l.length + k) cur hB w.heap.size [] rfl (by simp) (fun h => absurd h (by simp)) RdB.nil (by have := HCL.out; simp; omega) ?_; intro w2 L2 hL2 hB2 hg2; have HL2 := Lib.hid hL2; clear hL2))
          have hgb2 : Below w.heap.size w w2 := (hb.drew).grown hg2 hb.size (fun k hk => by injection hk with hk; omega)
          go_wp2
          go_ret
          have e2 : L2 = Esc.esc o nw l := by rw [HL2.out]; exact HE.out
          refine ⟨_, _, ret_slice HN.out.symm, ?_, hgb2⟩
          rw [← e2]
          have hlen2 : L2.length = l.length + k := by rw [e2]; exact HN.out
          rw [← hlen2]
          exact hB2.own (Nat.le_refl _) (by omega)
        · go_wp2_with fail
          go_region_held_law (fun _ => True) (trivial) ((refine step_copy_b _ rfl (.tmp 123) (.tmp 126) bt rfl (some ⟨w.heap.size, 0, none⟩) (Option.map (fun a => a.add l.length) A) 0 0 0 (c - l.length) (by rfl) (by rfl) w.heap.size (l.length + k) cur hB w.heap.size [] rfl (by simp) (fun h => absurd h (by simp)) RdB.nil (by have := HCL.out; simp; omega) ?_; intro w2 L2 hL2 hB2 hg2; have HL2 := Lib.hid hL2; clear hL2))
          have hgb2 : Below w.heap.size w w2 := (hb.drew).grown hg2 hb.size (fun k hk => by injection hk with hk; omega)
          go_wp2
          go_ret
          have e2 : L2 = Esc.esc o nw l := by rw [HL2.out]; exact HE.out
          refine ⟨_, _, ret_slice HN.out.symm, ?_, hgb2⟩
          rw [← e2]
          have hlen2 : L2.length = l.length + k := by rw [e2]; exact HN.out
          rw [← hlen2]
          exact hB2.own (Nat.le_refl _) (by omega)

/-- bytes.ReplaceAll(s, []byte{o}, []byte{x, y}). -/
theorem replaceAll_any (A : Option Addr) (c g c2 : Nat) (A3 : Option Addr) (c3 : Nat) (l nw : List UInt8) (o : UInt8) (w : World) (h : RdB w w.heap.size A l) (hlc : l.length ≤ c) (hcc : c ≤ 9223372036854775807) (hc : w.cell? ⟨g, 0, none⟩ = some (.int .u8 (o.toNat : Int)))
    (h3 : RdB w w.heap.size A3 nw) (hnw : nw.length = 2) (hlen : l.length ≤ 70368744177664) :
    Calls Tryz.prog 215 #[.slice A l.length c, .slice (some ⟨g, 0, none⟩) 1 c2, .slice A3 2 c3] w fun e w' =>
      ∃ A' c', e = .returned (.slice A' (Esc.esc o nw l).length c') ∧ Own w' w.heap.size 5 A' c' (Esc.esc o nw l) ∧ Below w.heap.size w w' := by
  rcases Nat.eq_zero_or_pos (l.count o) with h0 | h0
  · have R := replace_none A c g c2 A3 c3 l nw o w h hc h0 (by omega)
    rw [hnw] at R
    rw [Esc.esc_none o nw l h0]
    have HR := Lib.hid R; clear R h0
    go_enter Tryz.func215, Tryz.ntmps215
    go_wp2_with fail
    refine HR.out.mono ?_
    rintro e w1 ⟨A', c', rfl, ho, hb⟩
    go_wp2_with fail
    go_ret
    exact ⟨A', c', rfl, ho, hb⟩
  · have HR := Lib.hid (replace_some A c g c2 A3 c3 l nw o w h hlc hcc hc h3 hnw h0 hlen)
    clear h0 hnw
    go_enter Tryz.func215, Tryz.ntmps215
    go_wp2_with fail
    refine HR.out.mono ?_
    rintro e w1 ⟨A', c', rfl, ho, hb⟩
    go_wp2_with fail
    go_ret
    exact ⟨A', c', rfl, ho, hb⟩
theorem replaceAll_n (A : Option Addr) (n c g c2 : Nat) (A3 : Option Addr) (c3 : Nat) (l nw : List UInt8) (o : UInt8) (w : World) (hn : n = l.length) (h : RdB w w.heap.size A l) (hlc : n ≤ c) (hcc : c ≤ 9223372036854775807) (hc : w.cell? ⟨g, 0, none⟩ = some (.int .u8 (o.toNat : Int)))
    (h3 : RdB w w.heap.size A3 nw) (hnw : nw.length = 2) (hlen : n ≤ 70368744177664) :
    Calls Tryz.prog 215 #[.slice A n c, .slice (some ⟨g, 0, none⟩) 1 c2, .slice A3 2 c3] w fun e w' =>
      ∃ A' c', e = .returned (.slice A' (Esc.esc o nw l).length c') ∧ Own w' w.heap.size 5 A' c' (Esc.esc o nw l) ∧ Below w.heap.size w w' := by
  subst hn
  exact replaceAll_any A c g c2 A3 c3 l nw o w h hlc hcc hc h3 hnw hlen
end Go.Proofs.YtekbdedpombgcaaGreatDoor
