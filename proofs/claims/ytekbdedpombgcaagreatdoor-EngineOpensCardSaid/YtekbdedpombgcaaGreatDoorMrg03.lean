/- Parts of the proof, one behind the other: Plain: a store of files, and a directory of their names; what its changes come to.; A directory as a map's datum: what its views give.; Plain: what holds of a store, whatever was done to it.; Plain: what a crash makes of files. -/
import Derived.Sort.KeysCollected
import Derived.Maps.Views
import Derived.Maps.OwnSet
namespace Go.Proofs.YtekbdedpombgcaaGreatDoor
open Go.WideShapes

namespace Sto
abbrev Str := List UInt8
/-- Names, rising, each with its file's number. -/
abbrev Dir := List (Str × Nat)
structure Fl where
  b : List UInt8
  sure : Nat
inductive Chg where
  | put (n : Str) (i : Nat)
  | ren (f t : Str) (i : Nat)
  | del (n : Str)
structure St where
  room : Int
  files : List Fl
  now : Dir
  disk : Dir
  kept : List Chg
  plan : List UInt8
  off : Bool
def ins (x : Str × Nat) : Dir → Dir
  | [] => [x]
  | y :: r => if bytesBefore x.1 y.1 then x :: y :: r else y :: ins x r
def del (l : Dir) (n : Str) : Dir := l.filter fun p => !(p.1 == n)
def put (l : Dir) (n : Str) (i : Nat) : Dir := ins (n, i) (del l n)
def find (l : Dir) (n : Str) : Option Nat := (l.find? fun p => p.1 == n).map (·.2)
def made (l : Dir) : Chg → Dir
  | .put n i => put l n i
  | .ren f t i => put (del l f) t i
  | .del n => del l n
def Srt (l : Dir) : Prop := l.Pairwise fun p q => bytesBefore p.1 q.1 = true
/-- Which files a directory names. -/
def ids (l : Dir) : List Nat := l.map (·.2)
section
variable {l : Dir} {n m : Str} {i : Nat} {x : Str × Nat}
theorem mem_ins {p : Str × Nat} : ∀ {l : Dir}, p ∈ ins x l ↔ p = x ∨ p ∈ l
  | [] => by simp [ins]
  | y :: r => by
    unfold ins
    split
    · simp
    · simp only [List.mem_cons, mem_ins (l := r)]
      constructor
      · rintro (h | h | h)
        · exact .inr (.inl h)
        · exact .inl h
        · exact .inr (.inr h)
      · rintro (h | h | h)
        · exact .inr (.inl h)
        · exact .inl h
        · exact .inr (.inr h)
theorem mem_del {p : Str × Nat} : p ∈ del l n ↔ p ∈ l ∧ p.1 ≠ n := by unfold del; rw [List.mem_filter]; simp
theorem del_len : (del l n).length ≤ l.length := List.length_filter_le _ _
theorem Srt.nil : Srt [] := List.Pairwise.nil
theorem Srt.del (h : Srt l) (n : Str) : Srt (del l n) := List.Pairwise.filter _ h
theorem Srt.ins {x : Str × Nat} : ∀ {l : Dir}, Srt l → (∀ p ∈ l, p.1 ≠ x.1) → Srt (ins x l)
  | [], _, _ => by unfold Sto.ins; exact List.pairwise_singleton _ _
  | y :: r, h, hx => by
    obtain ⟨h1, h2⟩ := List.pairwise_cons.1 h
    unfold Sto.ins
    by_cases hb : bytesBefore x.1 y.1 = true
    · rw [if_pos hb]
      refine List.pairwise_cons.2 ⟨fun p hp => ?_, h⟩
      rcases List.mem_cons.1 hp with rfl | hp
      · exact hb
      · exact bytes_trans _ _ _ hb (h1 p hp)
    · rw [if_neg hb]
      refine List.pairwise_cons.2 ⟨fun p hp => ?_, Srt.ins h2 (fun p hp => hx p (by simp [hp]))⟩
      rcases mem_ins.1 hp with rfl | hp
      · rcases WideAt.bytes_total p.1 y.1 (fun e => hx y (by simp) e.symm) with h3 | h3
        · exact absurd h3 hb
        · exact h3
      · exact h1 p hp
theorem Srt.put (h : Srt l) (n : Str) (i : Nat) : Srt (put l n i) := Srt.ins (h.del n) (fun _ hp => (mem_del.1 hp).2)
theorem Srt.made (h : Srt l) (c : Chg) : Srt (made l c) := by
  cases c with
  | put n i => exact h.put n i
  | ren f t i => exact (h.del f).put t i
  | del n => exact h.del n
/-- In a rising list a name stands once. -/
theorem Srt.uniq (h : Srt l) {p q : Str × Nat} (hp : p ∈ l) (hq : q ∈ l) (e : p.1 = q.1) : p = q := by
  induction l with
  | nil => cases hp
  | cons y r ih =>
    obtain ⟨h1, h2⟩ := List.pairwise_cons.1 h
    rcases List.mem_cons.1 hp with e1 | hp2
    · rcases List.mem_cons.1 hq with e2 | hq2
      · rw [e1, e2]
      · have := h1 q hq2
        rw [← e1, e, WideAt.bytes_irrefl] at this; cases this
    · rcases List.mem_cons.1 hq with e2 | hq2
      · have := h1 p hp2
        rw [← e2, e, WideAt.bytes_irrefl] at this; cases this
      · exact ih h2 hp2 hq2
theorem find_some : find l n = some i → (n, i) ∈ l := fun h => by
  unfold find at h
  obtain ⟨p, hp, rfl⟩ := Option.map_eq_some_iff.1 h
  have h1 := List.find?_some hp
  have h2 := List.mem_of_find?_eq_some hp
  obtain ⟨a, b⟩ := p
  simp only [beq_iff_eq] at h1
  subst h1
  exact h2
theorem Srt.find (h : Srt l) (hm : (n, i) ∈ l) : find l n = some i := by
  cases hf : Sto.find l n with
  | none =>
    unfold Sto.find at hf
    rw [Option.map_eq_none_iff, List.find?_eq_none] at hf
    exact absurd (by simp) (hf _ hm)
  | some j =>
    have := h.uniq (find_some hf) hm rfl
    injection this with _ e
    rw [e]
end

def nameChar (c : UInt8) : Bool := decide ((97 ≤ c ∧ c ≤ 122) ∨ (48 ≤ c ∧ c ≤ 57) ∨ c = 45 ∨ c = 46)
def isName (s : Str) : Bool := decide (1 ≤ s.length ∧ s.length ≤ 64) && s.all nameChar
def file (s : St) (i : Nat) : Fl := s.files.getD i ⟨[], 0⟩
/-- What a change meets. -/
def meet (s : St) (names : List Str) : Int × St :=
  if names.all isName = false then (1, s) else if s.off = true then (8, s) else
  match s.plan with
  | [] => (0, s)
  | c :: p => if c = 1 then (7, { s with plan := p }) else if c = 2 then (8, { s with plan := p, off := true }) else (0, { s with plan := p })
def size (s : St) : Nat := (s.now.map fun p => (file s p.2).b.length).sum
def change (s : St) (c : Chg) : St := { s with now := made s.now c, kept := s.kept ++ [c] }
def create (s : St) (n : Str) : Int × St :=
  let m := meet s [n]
  if m.1 ≠ 0 then m else if (find m.2.now n).isSome then (5, m.2) else (0, change { m.2 with files := m.2.files ++ [⟨[], 0⟩] } (.put n m.2.files.length))
def setF (s : St) (i : Nat) (f : Fl) : St := { s with files := s.files.set i f }
def append (s : St) (n : Str) (b : List UInt8) : Int × St :=
  let m := meet s [n]
  if m.1 ≠ 0 then m else match find m.2.now n with
  | none => (4, m.2)
  | some i => if m.2.room - (size m.2 : Int) < (b.length : Int) then (6, m.2) else (0, setF m.2 i ⟨(file m.2 i).b ++ b, (file m.2 i).sure⟩)
def sync (s : St) (n : Str) : Int × St :=
  let m := meet s [n]
  if m.1 ≠ 0 then m else match find m.2.now n with
  | none => (4, m.2)
  | some i => (0, setF m.2 i ⟨(file m.2 i).b, (file m.2 i).b.length⟩)
def remove (s : St) (n : Str) : Int × St :=
  let m := meet s [n]
  if m.1 ≠ 0 then m else match find m.2.now n with
  | none => (4, m.2)
  | some _ => (0, change m.2 (.del n))
def rename (s : St) (f t : Str) : Int × St :=
  let m := meet s [t, f]
  if m.1 ≠ 0 then m else match find m.2.now f with
  | none => (4, m.2)
  | some i => if f = t then (0, m.2) else (0, change m.2 (.ren f t i))
def syncDir (s : St) : Int × St :=
  let m := meet s []
  if m.1 ≠ 0 then m else (0, { m.2 with disk := m.2.now, kept := [] })
def read (s : St) (n : Str) : Int × List UInt8 :=
  if s.off = true then (8, []) else if isName n = false then (1, []) else match find s.now n with
  | none => (4, [])
  | some i => (0, (file s i).b)
def names (s : St) : List Str := s.now.map (·.1)
/-- What of a file stays. -/
def cut (keep : List Int) (k : Nat) (f : Fl) : Fl :=
  let n := match keep[k]? with
    | some x => (min (max x 0) ((f.b.length : Int) - (f.sure : Int))).toNat
    | none => 0
  ⟨f.b.take (f.sure + n), f.sure + n⟩
def cutAll (keep : List Int) : Nat → List Nat → List Fl → List Fl
  | _, [], fs => fs
  | k, i :: r, fs => cutAll keep (k + 1) r (fs.set i (cut keep k (fs.getD i ⟨[], 0⟩)))
def crash (s : St) (changes : Int) (keep : List Int) : St :=
  let d := (s.kept.take changes.toNat).foldl made s.disk
  ⟨s.room, cutAll keep 0 (ids d) s.files, d, d, [], [], false⟩
def new (room : Int) : St := ⟨room, [], [], [], [], [], false⟩
end Sto
end Go.Proofs.YtekbdedpombgcaaGreatDoor

namespace Go.Proofs.YtekbdedpombgcaaGreatDoor
open Go.WideShapes Go.Maps

namespace Sto
/-- An element that is a pointer, read as its block. -/
def ptrR : Value → Option (DataW Unit × List MemPlace)
  | .pointer none => some (.nil, [])
  | .pointer (some ⟨g, 0, none⟩) => some (.lit (.int .i64 (g : Int)), [])
  | _ => none
def pd (g : Nat) : DataW Unit := .lit (.int .i64 (g : Int))
theorem ptrR_mk (g : Nat) : ptrR (.pointer (some ⟨g, 0, none⟩)) = some (pd g, []) := rfl
theorem ptrR_zero : ptrR (.pointer none) = some (.nil, []) := rfl
theorem ptrR_inv {v : Value} {y : DataW Unit × List MemPlace} (h : ptrR v = some y) : (v = .pointer none ∧ y.1 = .nil) ∨ ∃ g, v = .pointer (some ⟨g, 0, none⟩) ∧ y.1 = pd g := by
  unfold ptrR at h
  split at h
  · injection h with h; subst h; exact .inl ⟨rfl, rfl⟩
  · injection h with h; subst h; exact .inr ⟨_, rfl, rfl⟩
  · cases h
theorem pd_inj {g k : Nat} (h : pd g = pd k) : g = k := by
  unfold pd at h
  injection h with h
  injection h with _ h
  omega
theorem ptrR_pd {v : Value} {g : Nat} {ps : List MemPlace} (h : ptrR v = some (pd g, ps)) : v = .pointer (some ⟨g, 0, none⟩) := by
  rcases ptrR_inv h with ⟨_, e⟩ | ⟨k, rfl, e⟩
  · cases e
  · rw [pd_inj e]
def ent (bs : List Nat) (p : Str × Nat) : Lit × DataW Unit := (.string p.1, pd (bs.getD p.2 0))
def dirD (bs : List Nat) (l : Dir) : DataW Unit := .map (l.map (ent bs))
section
variable {bs : List Nat} {l : Dir} {n : Str} {i : Nat}
theorem map_ins (x : Str × Nat) : ∀ l : Dir, (ins x l).map (ent bs) = DataW.insert (ent bs x) (l.map (ent bs))
  | [] => rfl
  | y :: r => by
    unfold ins
    rw [List.map_cons]
    unfold DataW.insert
    have e : (ent bs x).1.before (ent bs y).1 = bytesBefore x.1 y.1 := rfl
    rw [e]
    by_cases hb : bytesBefore x.1 y.1 = true
    · rw [if_pos hb, if_pos hb]; rfl
    · rw [if_neg hb, if_neg hb, List.map_cons, map_ins x r]
theorem map_del : (del l n).map (ent bs) = (l.map (ent bs)).filter fun p => !p.1.sameKey (.string n) := by
  unfold del
  rw [List.filter_map]
  rfl
theorem dirD_del : (dirD bs l).del (.string n) = dirD bs (del l n) := by
  unfold dirD
  rw [map_del]
  rfl
theorem dirD_put : (dirD bs l).put (.string n) (pd (bs.getD i 0)) = dirD bs (put l n i) := by
  unfold dirD put
  rw [map_ins, map_del]
  rfl
theorem any_isSome {α : Type} (f : α → Bool) : ∀ l : List α, l.any f = (l.find? f).isSome
  | [] => rfl
  | a :: l => by
    rw [List.any_cons, List.find?_cons]
    cases f a <;> simp [any_isSome f l]
theorem dirD_has : Maps.has (dirD bs l) (.string n) = (find l n).isSome := by
  unfold dirD find
  rw [Maps.has_eq, List.any_map, Option.isSome_map]
  exact any_isSome _ l
theorem dirD_at (z : DataW Unit) : (dirD bs l).atKey (.string n) z = match find l n with | some i => pd (bs.getD i 0) | none => z := by
  have e : (l.map (ent bs)).find? (fun p => p.1.sameKey (.string n)) = (l.find? fun p => p.1 == n).map (ent bs) := by
    rw [List.find?_map]; rfl
  unfold dirD DataW.atKey find
  simp only [e]
  cases l.find? fun p => p.1 == n <;> rfl
theorem dirD_size : Maps.size (dirD bs l) = l.length := by unfold dirD; rw [Maps.size_eq, List.length_map]
theorem dirD_keys : strKeys (dirD bs l) = l.map (·.1) := by
  show (l.map (ent bs)).map (fun p => strOf p.1) = _
  rw [List.map_map]; rfl
theorem dirD_more (more : List Nat) (h : ∀ p ∈ l, p.2 < bs.length) : dirD (bs ++ more) l = dirD bs l := by
  unfold dirD
  congr 1
  refine List.map_congr_left fun p hp => ?_
  unfold ent
  rw [List.getD_eq_getElem?_getD, List.getElem?_append_left (h p hp), ← List.getD_eq_getElem?_getD]
end
end Sto
end Go.Proofs.YtekbdedpombgcaaGreatDoor

namespace Go.Proofs.YtekbdedpombgcaaGreatDoor
open Go.WideShapes

namespace Sto
/-- A directory over N files: names rise, no file twice. -/
structure Good (N : Nat) (l : Dir) : Prop where
  srt : Srt l
  nd : (ids l).Nodup
  lt : ∀ i ∈ ids l, i < N
theorem nodup_le : ∀ (N : Nat) (l : List Nat), l.Nodup → (∀ i ∈ l, i < N) → l.length ≤ N
  | 0, l, _, h => by
    cases l with
    | nil => simp
    | cons a l => exact absurd (h a (by simp)) (by omega)
  | N + 1, l, hn, h => by
    by_cases hm : N ∈ l
    · have h1 := nodup_le N (l.erase N) (hn.erase N) (fun i hi => by
        have h2 := (hn.mem_erase_iff).1 hi
        have := h i h2.2
        omega)
      rw [List.length_erase_of_mem hm] at h1
      omega
    · have := nodup_le N l hn (fun i hi => by
        have := h i hi
        have h3 : i ≠ N := fun e => hm (e ▸ hi)
        omega)
      omega
theorem Good.len {N : Nat} {l : Dir} (h : Good N l) : l.length ≤ N := by
  have := nodup_le N (ids l) h.nd h.lt
  unfold ids at this
  rwa [List.length_map] at this
theorem Good.nil (N : Nat) : Good N [] := ⟨Srt.nil, List.nodup_nil, fun _ h => by cases h⟩
theorem Good.mono {N M : Nat} {l : Dir} (h : Good N l) (hm : N ≤ M) : Good M l := ⟨h.srt, h.nd, fun i hi => Nat.lt_of_lt_of_le (h.lt i hi) hm⟩
theorem Good.del {N : Nat} {l : Dir} (h : Good N l) (n : Str) : Good N (del l n) := by
  have hs : (ids (Sto.del l n)).Sublist (ids l) := List.Sublist.map _ List.filter_sublist
  exact ⟨h.srt.del n, hs.nodup h.nd, fun i hi => h.lt i (hs.subset hi)⟩
theorem ids_ins (x : Str × Nat) : ∀ l : Dir, (ids (ins x l)).Perm (x.2 :: ids l)
  | [] => List.Perm.refl _
  | y :: r => by
    unfold ins
    split
    · exact List.Perm.refl _
    · show (y.2 :: ids (ins x r)).Perm (x.2 :: y.2 :: ids r)
      exact ((ids_ins x r).cons y.2).trans (List.Perm.swap _ _ _)
theorem Good.put {N : Nat} {l : Dir} (h : Good N l) (n : Str) (i : Nat) (hi : i < N) (hx : i ∉ ids (Sto.del l n)) : Good N (Sto.put l n i) := by
  have hd := h.del n
  have hp := ids_ins (n, i) (Sto.del l n)
  refine ⟨h.srt.put n i, hp.nodup_iff.2 (List.nodup_cons.2 ⟨hx, hd.nd⟩), fun j hj => ?_⟩
  rcases List.mem_cons.1 (hp.mem_iff.1 hj) with e | h1
  · rw [e]; exact hi
  · exact hd.lt j h1
def Chg.at : Chg → Option Nat
  | .put _ i => some i
  | .ren _ _ i => some i
  | .del _ => none
/-- What holds of a store. -/
structure Ok (s : St) : Prop where
  hist : ∀ k, Good s.files.length ((s.kept.take k).foldl made s.disk)
  now : s.kept.foldl made s.disk = s.now
  sure : ∀ f ∈ s.files, f.sure ≤ f.b.length
  len : ∀ f ∈ s.files, f.b.length ≤ 16777216
  room : 0 ≤ s.room ∧ s.room ≤ 16777216
  kept : ∀ c ∈ s.kept, ∀ i, c.at = some i → i < s.files.length
section
variable {s : St} {n : Str}
theorem Ok.gnow (h : Ok s) : Good s.files.length s.now := by
  have := h.hist s.kept.length
  rwa [List.take_length, h.now] at this
theorem Ok.gdisk (h : Ok s) : Good s.files.length s.disk := h.hist 0
theorem Ok.find_lt (h : Ok s) {i : Nat} (hf : find s.now n = some i) : i < s.files.length := h.gnow.lt i (List.mem_map_of_mem (f := (·.2)) (find_some hf))
theorem Ok.new (room : Int) (h : 0 ≤ room ∧ room ≤ 16777216) : Ok (new room) :=
  ⟨fun k => by simpa [Sto.new] using Good.nil 0, rfl, (fun _ h => by cases h), (fun _ h => by cases h), h, (fun _ h => by cases h)⟩
theorem meet_cases (s : St) (l : List Str) : (meet s l).2 = s ∨ ∃ p o, (meet s l).2 = { s with plan := p, off := o } := by
  unfold meet
  split
  · exact .inl rfl
  · split
    · exact .inl rfl
    · split
      · exact .inl rfl
      · split
        · exact .inr ⟨_, s.off, rfl⟩
        · split
          · exact .inr ⟨_, _, rfl⟩
          · exact .inr ⟨_, s.off, rfl⟩
theorem Ok.turn (h : Ok s) (p : List UInt8) (o : Bool) : Ok { s with plan := p, off := o } := ⟨h.hist, h.now, h.sure, h.len, h.room, h.kept⟩
theorem Ok.meet (h : Ok s) (l : List Str) : Ok (meet s l).2 := by
  rcases meet_cases s l with e | ⟨p, o, e⟩
  · rw [e]; exact h
  · rw [e]; exact h.turn p o
theorem Ok.more (h : Ok s) : Ok { s with files := s.files ++ [⟨[], 0⟩] } := by
  refine ⟨fun k => (h.hist k).mono (by simp), h.now, fun f hf => ?_, fun f hf => ?_, h.room, fun c hc i hi => ?_⟩
  · rcases List.mem_append.1 hf with h1 | h1
    · exact h.sure f h1
    · obtain rfl : f = ⟨[], 0⟩ := by simpa using h1
      simp
  · rcases List.mem_append.1 hf with h1 | h1
    · exact h.len f h1
    · obtain rfl : f = ⟨[], 0⟩ := by simpa using h1
      simp
  · have := h.kept c hc i hi
    simp; omega
theorem Ok.change (h : Ok s) (c : Chg) (hg : Good s.files.length (made s.now c)) (hc : ∀ i, c.at = some i → i < s.files.length) : Ok (change s c) := by
  refine ⟨fun k => ?_, ?_, h.sure, h.len, h.room, fun d hd i hi => ?_⟩
  · show Good s.files.length (((s.kept ++ [c]).take k).foldl made s.disk)
    rcases Nat.lt_or_ge s.kept.length k with hk | hk
    · rw [List.take_of_length_le (by simp; omega), List.foldl_append, h.now]
      exact hg
    · rw [List.take_append_of_le_length hk]
      exact h.hist k
  · show (s.kept ++ [c]).foldl made s.disk = made s.now c
    rw [List.foldl_append, h.now]; rfl
  · rcases List.mem_append.1 hd with h1 | h1
    · exact h.kept d h1 i hi
    · obtain rfl : d = c := by simpa using h1
      exact hc i hi
theorem Ok.create (h : Ok s) (n : Str) : Ok (create s n).2 := by
  unfold Sto.create
  have hm := h.meet [n]
  simp only
  split
  · exact hm
  · split
    · exact hm
    · have h1 := hm.more
      refine h1.change _ ?_ (fun i hi => by injection hi with hi; subst hi; simp)
      refine Good.put h1.gnow n _ (by simp) (fun hx => ?_)
      have := (hm.gnow.del n).lt _ hx
      omega
theorem mem_set_or {α : Type} {l : List α} {i : Nat} {a b : α} (h : b ∈ l.set i a) : b = a ∨ b ∈ l := (List.mem_or_eq_of_mem_set h).symm
theorem Ok.setF (h : Ok s) (i : Nat) (f : Fl) (h1 : f.sure ≤ f.b.length) (h2 : f.b.length ≤ 16777216) : Ok (setF s i f) := by
  refine ⟨fun k => ?_, h.now, fun g hg => ?_, fun g hg => ?_, h.room, fun c hc j hj => ?_⟩
  · show Good (s.files.set i f).length _
    rw [List.length_set]; exact h.hist k
  · rcases mem_set_or hg with rfl | h3
    · exact h1
    · exact h.sure g h3
  · rcases mem_set_or hg with rfl | h3
    · exact h2
    · exact h.len g h3
  · show j < (s.files.set i f).length
    rw [List.length_set]; exact h.kept c hc j hj
theorem file_ok (h : Ok s) (i : Nat) : (file s i).sure ≤ (file s i).b.length ∧ (file s i).b.length ≤ 16777216 := by
  unfold file
  rcases Nat.lt_or_ge i s.files.length with hi | hi
  · rw [List.getD_eq_getElem?_getD, List.getElem?_eq_getElem hi]
    exact ⟨h.sure _ (List.getElem_mem _), h.len _ (List.getElem_mem _)⟩
  · rw [List.getD_eq_getElem?_getD, List.getElem?_eq_none hi]; simp
theorem size_ge {i : Nat} (hf : find s.now n = some i) : (file s i).b.length ≤ size s := by
  unfold size
  have := find_some hf
  generalize s.now = l at this
  induction l with
  | nil => cases this
  | cons a l ih =>
    rw [List.map_cons, List.sum_cons]
    rcases List.mem_cons.1 this with e | h1
    · rw [← e]; simp
    · have := ih h1; omega
theorem Ok.append (h : Ok s) (n : Str) (b : List UInt8) : Ok (append s n b).2 := by
  unfold Sto.append
  have hm := h.meet [n]
  simp only
  split
  · exact hm
  · split
    · exact hm
    · rename_i i hf
      split
      · exact hm
      · rename_i hr
        have h1 := size_ge hf
        have h2 := hm.room
        have h3 := file_ok hm i
        exact hm.setF i _ (by simp; omega) (by simp; omega)
theorem Ok.sync (h : Ok s) (n : Str) : Ok (sync s n).2 := by
  unfold Sto.sync
  have hm := h.meet [n]
  simp only
  split
  · exact hm
  · split
    · exact hm
    · rename_i i hf
      exact hm.setF i _ (Nat.le_refl _) (file_ok hm i).2
theorem Ok.remove (h : Ok s) (n : Str) : Ok (remove s n).2 := by
  unfold Sto.remove
  have hm := h.meet [n]
  simp only
  split
  · exact hm
  · split
    · exact hm
    · exact hm.change _ (hm.gnow.del n) (fun i hi => by cases hi)
theorem Ok.syncDir (h : Ok s) : Ok (syncDir s).2 := by
  unfold Sto.syncDir
  have hm := h.meet []
  simp only
  split
  · exact hm
  · exact ⟨fun k => by simpa using hm.gnow, rfl, hm.sure, hm.len, hm.room, fun _ hc => by cases hc⟩
theorem cut_ok (keep : List Int) (k : Nat) {f : Fl} (h1 : f.sure ≤ f.b.length) (h2 : f.b.length ≤ 16777216) : (cut keep k f).sure = (cut keep k f).b.length ∧ (cut keep k f).b.length ≤ 16777216 := by
  unfold cut
  simp only [List.length_take]
  cases keep[k]? with
  | none => simp; omega
  | some x => simp only; omega
theorem cutAll_len (keep : List Int) : ∀ (l : List Nat) (k : Nat) (fs : List Fl), (cutAll keep k l fs).length = fs.length
  | [], _, _ => rfl
  | i :: r, k, fs => by rw [cutAll, cutAll_len keep r]; simp
theorem cutAll_ok (keep : List Int) : ∀ (l : List Nat) (k : Nat) (fs : List Fl), (∀ f ∈ fs, f.sure ≤ f.b.length ∧ f.b.length ≤ 16777216) → ∀ f ∈ cutAll keep k l fs, f.sure ≤ f.b.length ∧ f.b.length ≤ 16777216
  | [], _, _, h => h
  | i :: r, k, fs, h => by
    rw [cutAll]
    refine cutAll_ok keep r (k + 1) _ (fun f hf => ?_)
    rcases mem_set_or hf with rfl | h3
    · have hfi : (fs.getD i ⟨[], 0⟩).sure ≤ (fs.getD i ⟨[], 0⟩).b.length ∧ (fs.getD i ⟨[], 0⟩).b.length ≤ 16777216 := by
        rcases Nat.lt_or_ge i fs.length with hi | hi
        · rw [List.getD_eq_getElem?_getD, List.getElem?_eq_getElem hi]
          exact h _ (List.getElem_mem _)
        · rw [List.getD_eq_getElem?_getD, List.getElem?_eq_none hi]; simp
      have := cut_ok keep k hfi.1 hfi.2
      omega
    · exact h f h3
theorem Ok.crash (h : Ok s) (c : Int) (keep : List Int) : Ok (crash s c keep) := by
  have hl : (Sto.crash s c keep).files.length = s.files.length := cutAll_len _ _ _ _
  have hk := cutAll_ok keep (ids ((s.kept.take c.toNat).foldl made s.disk)) 0 s.files (fun f hf => ⟨h.sure f hf, h.len f hf⟩)
  refine ⟨fun k => ?_, rfl, fun f hf => (hk f hf).1, fun f hf => (hk f hf).2, h.room, fun _ hc => by cases hc⟩
  rw [hl]
  have e : ((Sto.crash s c keep).kept.take k).foldl made (Sto.crash s c keep).disk = (s.kept.take c.toNat).foldl made s.disk := by
    show (([] : List Chg).take k).foldl made _ = _
    simp
    rfl
  rw [e]
  exact h.hist _
/-- How much there is at most of files and changes. -/
theorem meet_files (s : St) (l : List Str) : (meet s l).2.files = s.files ∧ (meet s l).2.kept = s.kept ∧ (meet s l).2.now = s.now ∧ (meet s l).2.disk = s.disk ∧ (meet s l).2.room = s.room := by
  rcases meet_cases s l with e | ⟨p, o, e⟩ <;> rw [e] <;> exact ⟨rfl, rfl, rfl, rfl, rfl⟩
end
end Sto
end Go.Proofs.YtekbdedpombgcaaGreatDoor

namespace Go.Proofs.YtekbdedpombgcaaGreatDoor

namespace Sto
/-- What may become of a file: some of its first bytes, all that are sure among them. -/
def Cut (f g : Fl) : Prop := ∃ n, f.sure + n ≤ f.b.length ∧ g = ⟨f.b.take (f.sure + n), f.sure + n⟩
theorem cut_cut (keep : List Int) (k : Nat) (f : Fl) (h : f.sure ≤ f.b.length) : Cut f (cut keep k f) := by
  unfold cut
  simp only
  refine ⟨_, ?_, rfl⟩
  cases keep[k]? with
  | none => simpa using h
  | some x => simp only; omega
theorem Cut.whole {f g : Fl} (h : Cut f g) (hs : f.sure = f.b.length) : g = f := by
  obtain ⟨n, h1, rfl⟩ := h
  obtain rfl : n = 0 := by omega
  obtain ⟨b, u⟩ := f
  simp only at hs
  subst hs
  simp
theorem getD_set {α : Type} (l : List α) (i j : Nat) (a d : α) : (l.set i a).getD j d = if i = j ∧ i < l.length then a else l.getD j d := by
  rw [List.getD_eq_getElem?_getD, List.getD_eq_getElem?_getD, List.getElem?_set]
  by_cases h : i = j
  · subst h
    rw [if_pos rfl]
    by_cases h2 : i < l.length
    · rw [if_pos h2, if_pos ⟨rfl, h2⟩]; rfl
    · rw [if_neg h2, if_neg (by simp [h2]), List.getElem?_eq_none (by omega)]
  · rw [if_neg h, if_neg (by simp [h])]
theorem cutAll_at (keep : List Int) : ∀ (l : List Nat) (k : Nat) (fs : List Fl), l.Nodup → (∀ f ∈ fs, f.sure ≤ f.b.length) → (∀ i ∈ l, i < fs.length) → ∀ j, (j ∈ l → Cut (fs.getD j ⟨[], 0⟩) ((cutAll keep k l fs).getD j ⟨[], 0⟩)) ∧ (j ∉ l → (cutAll keep k l fs).getD j ⟨[], 0⟩ = fs.getD j ⟨[], 0⟩)
  | [], _, _, _, _, _, _ => ⟨(fun h => by cases h), fun _ => rfl⟩
  | i :: r, k, fs, hn, hs, hl, j => by
    obtain ⟨hn1, hn2⟩ := List.nodup_cons.1 hn
    have hi := hl i (by simp)
    have hfi : (fs.getD i ⟨[], 0⟩).sure ≤ (fs.getD i ⟨[], 0⟩).b.length := by
      rw [List.getD_eq_getElem?_getD, List.getElem?_eq_getElem hi]
      exact hs _ (List.getElem_mem _)
    have hc := cut_cut keep k _ hfi
    obtain ⟨h1, h2⟩ := cutAll_at keep r (k + 1) (fs.set i (cut keep k (fs.getD i ⟨[], 0⟩))) hn2 (fun f hf => by
      rcases mem_set_or hf with rfl | hf
      · obtain ⟨n, h3, h4⟩ := hc
        rw [h4]; simp only [List.length_take]; omega
      · exact hs f hf) (fun x hx => by rw [List.length_set]; exact hl x (by simp [hx])) j
    rw [cutAll]
    rw [getD_set] at h1 h2
    refine ⟨fun hj => ?_, fun hj => ?_⟩
    · by_cases hij : i = j
      · subst hij
        rw [h2 hn1, if_pos ⟨rfl, hi⟩]
        exact hc
      · rw [if_neg (by simp [hij])] at h1
        rcases List.mem_cons.1 hj with e | hj
        · exact absurd e.symm hij
        · exact h1 hj
    · have hij : i ≠ j := fun e => hj (by simp [e])
      rw [h2 (fun h => hj (by simp [h])), if_neg (by simp [hij])]
end Sto
end Go.Proofs.YtekbdedpombgcaaGreatDoor
