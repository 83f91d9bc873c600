/- Parts of the proof, one behind the other: Plain: batches on a store: what a log does.; Plain: what the files of a log tell; numbered batches.; Plain: a log whose changes were made; what becomes of it when one is not, and behind a crash.; Plain: a log's file is made; batches are committed.; Plain: what Commit and Open come to, of a log whose changes were made. -/
import Derived.Test.YtaiokogbhfliiaaGreatDoorMrg02
import Derived.Test.YtaiokogbhfliiaaGreatDoorMrg18
import Derived.Test.YtaiokogbhfliiaaGreatDoorMrg24
namespace Go.Proofs.YtaiokogbhfliiaaGreatDoor
open Go.RowKit

namespace Wal
/-- A batch: its number, its bytes. -/
abbrev Bt := Nat × List UInt8
def scanL : Nat → List UInt8 → List (UInt8 × List UInt8)
  | 0, _ => []
  | n + 1, b => match Frm.take b with
    | none => []
    | some (k, t, r) => (k, t) :: scanL n r
/-- The frames that bytes begin with. -/
def scan (b : List UInt8) : List (UInt8 × List UInt8) := scanL b.length b
theorem scanL_of : ∀ (l : List (UInt8 × List UInt8)) (n : Nat) (b r : List UInt8), Frm.Scans b l r → Frm.take r = none → l.length ≤ n → scanL n b = l
  | [], n, b, r, h, hn, _ => by
    have e : b = r := h.eq
    subst e
    cases n with
    | zero => rfl
    | succ n => rw [scanL, hn]
  | p :: l, 0, _, _, _, _, hl => by simp at hl
  | p :: l, n + 1, b, r, h, hn, hl => by
    have ep : Frm.flat (p :: l) = Frm.put p.1 p.2 ++ Frm.flat l := by simp [Frm.flat]
    have e1 := h.eq
    rw [ep, List.append_assoc] at e1
    rw [scanL, e1, Frm.take_put _ _ _ (h.fit p (by simp))]
    simp only
    rw [scanL_of l n (Frm.flat l ++ r) r ⟨rfl, fun x hx => h.fit x (by simp [hx])⟩ hn (by simpa using hl)]
theorem scan_of {b r : List UInt8} {l : List (UInt8 × List UInt8)} (h : Frm.Scans b l r) (hn : Frm.take r = none) : scan b = l := scanL_of l _ b r h hn h.len.1
/-- The batches that frames tell, behind one of that number. -/
def tells : Option Nat → List (UInt8 × List UInt8) → List Bt
  | _, [] => []
  | last, p :: r => match Cod.take p.2 with
    | none => []
    | some (n, rest) => if p.1 ≠ 66 ∨ n < 1 ∨ 1099511627776 < n ∨ (last.any fun z => n != z + 1) = true then [] else (n, rest) :: tells (some n) r
def files (s : Sto.St) : List Nat := ((Sto.names s).map numbered).filter fun n => decide (0 < n)
def told (s : Sto.St) (n : Nat) : List Bt := tells none (scan (Sto.read s (name n)).2)
def join (out l : List Bt) : List Bt := match l.head?, out.getLast? with
  | none, _ => out
  | some _, none => l
  | some a, some z => if a.1 ≤ z.1 then out else if z.1 + 1 < a.1 then l else out ++ l
def there (s : Sto.St) : List Bt := (files s).foldl (fun out n => join out (told s n)) []
/-- A log, beside its store. -/
structure Lg where
  limit : Nat
  last : Nat
  size : Nat
  next : Nat
  waiting : List Bt
  broken : Bool
def mk (s : Sto.St) (l : Lg) : Int × Sto.St × Lg :=
  if 999999 ≤ l.last then (2, s, l) else
  let a := Sto.create s (name (l.last + 1))
  if a.1 ≠ 0 then (a.1, a.2, l) else
  let b := Sto.syncDir a.2
  if b.1 ≠ 0 then (b.1, b.2, l) else (0, b.2, { l with last := l.last + 1, size := 0 })
def opens (s : Sto.St) (limit : Int) : Int × Sto.St × Option (Lg × List Bt) :=
  if limit < 1 ∨ 65536 < limit then (1, s, none) else if s.off = true then (8, s, none) else
  let m := mk s ⟨limit.toNat, (files s).getLastD 0, 0, 1, [], false⟩
  if m.1 ≠ 0 then (m.1, m.2.1, none) else
  (0, m.2.1, some ({ m.2.2 with next := match (there s).getLast? with | none => 1 | some z => z.1 + 1 }, there s))
def add (l : Lg) (b : List UInt8) : Int × Nat × Lg :=
  if l.broken = true then (9, 0, l) else if 60000 < b.length then (1, 0, l) else if 1099511627776 < l.next then (2, 0, l) else
  (0, l.next, { l with waiting := l.waiting ++ [(l.next, b)], next := l.next + 1 })
/-- A batch as bytes of a file. -/
def one (x : Bt) : List UInt8 := Frm.put 66 (Cod.number x.1 ++ x.2)
def bytes (l : List Bt) : List UInt8 := l.flatMap one
def room (s : Sto.St) (l : Lg) : Int × Sto.St × Lg := if s.off = true then (8, s, l) else if l.size < l.limit then (0, s, l) else mk s l
def commit (s : Sto.St) (l : Lg) : Int × Sto.St × Lg :=
  if l.broken = true then (9, s, l) else if l.waiting = [] then (0, s, l) else
  let r := room s l
  if r.1 ≠ 0 then (r.1, r.2.1, { r.2.2 with broken := true }) else
  let a := Sto.append r.2.1 (name r.2.2.last) (bytes l.waiting)
  if a.1 ≠ 0 then (a.1, a.2, { r.2.2 with broken := true }) else
  let b := Sto.sync a.2 (name r.2.2.last)
  if b.1 ≠ 0 then (b.1, b.2, { r.2.2 with broken := true }) else
  (0, b.2, { r.2.2 with size := r.2.2.size + (bytes l.waiting).length, waiting := [] })
/-- The files that can go. -/
def olds (s : Sto.St) (l : Lg) (n : Int) : List Nat := (files s).filter fun f => f != l.last && (match (told s f).getLast? with | none => true | some z => decide ((z.1 : Int) ≤ n))
def removes : Sto.St → List Nat → Int × Sto.St
  | s, [] => (0, s)
  | s, f :: r => let a := Sto.remove s (name f); if a.1 ≠ 0 then a else removes a.2 r
def retire (s : Sto.St) (l : Lg) (n : Int) : Int × Sto.St × Lg :=
  if l.broken = true then (9, s, l) else if olds s l n = [] then (0, s, l) else
  let a := removes s (olds s l n)
  if a.1 ≠ 0 then (a.1, a.2, { l with broken := true }) else
  let b := Sto.syncDir a.2
  (b.1, b.2, { l with broken := b.1 != 0 })
def skip (l : Lg) (n : Int) : Int × Lg :=
  if l.broken = true then (9, l) else if n < 1 ∨ 1099511627776 < n then (1, l) else if l.waiting ≠ [] then (10, l) else (0, { l with next := max l.next n.toNat })
def next (l : Lg) : Nat := if l.broken = true then 0 else l.next
def waits (l : Lg) : Nat := if l.broken = true then 0 else l.waiting.length
end Wal
end Go.Proofs.YtaiokogbhfliiaaGreatDoor

namespace Go.Proofs.YtaiokogbhfliiaaGreatDoor
open Go.WideShapes

namespace Frm
theorem take_nil : take [] = none := rfl
end Frm
namespace Wal
/-- Batches numbered one by one. -/
def numb : Nat → List (List UInt8) → List Bt
  | _, [] => []
  | k, b :: r => (k, b) :: numb (k + 1) r
theorem numb_app : ∀ (a b : List (List UInt8)) (k : Nat), numb k (a ++ b) = numb k a ++ numb (k + a.length) b
  | [], _, _ => rfl
  | x :: a, b, k => by
    rw [List.cons_append, numb, numb, numb_app a b, List.length_cons, List.cons_append]
    have e : k + 1 + a.length = k + (a.length + 1) := by omega
    rw [e]
theorem numb_last (l : List (List UInt8)) (b : List UInt8) (k : Nat) : (numb k (l ++ [b])).getLast? = some (k + l.length, b) := by
  rw [numb_app]; simp [numb]
theorem nil_or_snoc {α : Type} (l : List α) : l = [] ∨ ∃ r a, l = r ++ [a] := by
  rcases List.eq_nil_or_concat l with h | ⟨r, a, h⟩
  · exact .inl h
  · exact .inr ⟨r, a, by rw [h, List.concat_eq_append]⟩
theorem join_numb (a b : List (List UInt8)) (k : Nat) : join (numb k a) (numb (k + a.length) b) = numb k (a ++ b) := by
  rw [numb_app]
  rcases b with _ | ⟨y, b⟩
  · simp [join, numb]
  · rcases nil_or_snoc a with rfl | ⟨a, z, rfl⟩
    · simp [join, numb]
    · unfold join
      rw [numb_last, numb]
      simp only [List.head?_cons]
      rw [if_neg (by simp only [List.length_append, List.length_cons, List.length_nil]; omega), if_neg (by simp only [List.length_append, List.length_cons, List.length_nil]; omega)]
theorem take_number {n : Nat} (h : n < 18446744073709551616) (r : List UInt8) : Cod.take (Cod.number n ++ r) = some (n, r) := Frm.take_num n h r
/-- A batch as a frame. -/
def fr (x : Bt) : UInt8 × List UInt8 := (66, Cod.number x.1 ++ x.2)
/-- A batch that fits. -/
def Fit (x : Bt) : Prop := x.1 < 18446744073709551616 ∧ x.2.length ≤ 65000
theorem Fit.fr {x : Bt} (h : Fit x) : (fr x).2.length ≤ 65536 := by
  have := Cod.number_len h.1
  have h2 := h.2
  show (Cod.number x.1 ++ x.2).length ≤ _
  rw [List.length_append]; omega
theorem numbered_name (n : Nat) (h : n < 1000000) : numbered (name n) = n := by
  obtain ⟨h1, h2⟩ := Prs.dval_digW 6 n (by omega)
  unfold name
  rw [numbered_pre, if_pos ⟨Dig.digW_length _ _, h2⟩, h1]
theorem bb_bl : ∀ (a b : List UInt8), bytesBefore a b = Op.bytesLess a b
  | [], [] => rfl
  | [], _ :: _ => rfl
  | _ :: _, [] => rfl
  | a :: r, b :: s => by rw [bytesBefore, Op.bytesLess, bb_bl r s]
theorem name_less {a b : Nat} (h : a < b) (hb : b < 1000000) : bytesBefore (name a) (name b) = true := by
  rw [bb_bl]
  unfold name
  exact (Dig.bytesLess_same _ _ _).trans (Dig.digW_less 6 a b h (by omega))
theorem isName_name (n : Nat) (h : n < 1000000) : Sto.isName (name n) = true := by
  obtain ⟨_, h2⟩ := Prs.dval_digW 6 n (by omega)
  unfold Sto.isName name
  rw [Bool.and_eq_true, List.all_eq_true]
  refine ⟨by simp [Dig.digW_length], fun c hc => ?_⟩
  rcases List.mem_append.1 hc with hc | hc
  · simp at hc
    rcases hc with rfl | rfl | rfl | rfl <;> rfl
  · have h3 : Prs.dig c = true := by
      unfold Prs.digs at h2
      exact List.all_eq_true.1 h2 c hc
    have h4 := Prs.dig_iff.1 h3
    unfold Sto.nameChar
    rw [decide_eq_true_iff]
    refine .inr (.inl ⟨?_, ?_⟩) <;> (rw [UInt8.le_iff_toNat_le]; simp; omega)
/-- A file of a log: its number, its place, what it tells. -/
structure Fi where
  n : Nat
  i : Nat
  g : List (List UInt8)
def Fi.ent (f : Fi) : Sto.Str × Nat := (name f.n, f.i)
def flat (fs : List Fi) : List (List UInt8) := fs.flatMap Fi.g
theorem flat_snoc (fs : List Fi) (f : Fi) : flat (fs ++ [f]) = flat fs ++ f.g := by unfold flat; simp
/-- What lies in the files: batches, from a number on. -/
def Lies (s : Sto.St) : Nat → List Fi → Prop
  | _, [] => True
  | k, f :: r => tells none (scan (Sto.file s f.i).b) = numb k f.g ∧ Lies s (k + f.g.length) r
theorem Lies.app {s : Sto.St} : ∀ {a b : List Fi} {k : Nat}, Lies s k (a ++ b) ↔ Lies s k a ∧ Lies s (k + (flat a).length) b
  | [], b, k => by simp [Lies, flat]
  | f :: a, b, k => by
    have e : (flat (f :: a)).length = f.g.length + (flat a).length := by simp [flat]
    rw [List.cons_append, Lies, Lies, Lies.app, e, Nat.add_assoc, and_assoc]
theorem Lies.congr {s s' : Sto.St} : ∀ {fs : List Fi} {k : Nat}, Lies s k fs → (∀ f ∈ fs, (Sto.file s' f.i).b = (Sto.file s f.i).b) → Lies s' k fs
  | [], _, _, _ => trivial
  | f :: r, k, h, he => ⟨by rw [he f (by simp)]; exact h.1, Lies.congr h.2 (fun g hg => he g (by simp [hg]))⟩
/-- A directory that is that of these files. -/
structure Dirs (d : Sto.Dir) (fs : List Fi) : Prop where
  eq : d = fs.map Fi.ent
  inc : fs.Pairwise fun a b => a.n < b.n
  bd : ∀ f ∈ fs, 1 ≤ f.n ∧ f.n ≤ 999999
theorem Dirs.nil : Dirs [] [] := ⟨rfl, List.Pairwise.nil, fun _ h => by cases h⟩
theorem Dirs.srt {d : Sto.Dir} {fs : List Fi} (h : Dirs d fs) : Sto.Srt d := by
  rw [h.eq]
  unfold Sto.Srt
  rw [List.pairwise_map]
  exact h.inc.imp_of_mem (fun ha hb hlt => name_less hlt (by have := (h.bd _ hb).2; omega))
theorem Dirs.find {d : Sto.Dir} {fs : List Fi} (h : Dirs d fs) {f : Fi} (hf : f ∈ fs) : Sto.find d (name f.n) = some f.i :=
  h.srt.find (by rw [h.eq]; exact List.mem_map.2 ⟨f, hf, rfl⟩)
theorem Dirs.files {s : Sto.St} {fs : List Fi} (h : Dirs s.now fs) : files s = fs.map Fi.n := by
  unfold Wal.files Sto.names
  rw [h.eq, List.map_map, List.map_map]
  have e : (fs.map ((numbered ∘ fun x => x.1) ∘ Fi.ent)) = fs.map Fi.n := List.map_congr_left (fun f hf => numbered_name f.n (by have := (h.bd f hf).2; omega))
  rw [e, List.filter_eq_self.2]
  intro n hn
  obtain ⟨f, hf, rfl⟩ := List.mem_map.1 hn
  have := (h.bd f hf).1
  simp; omega
theorem Dirs.read {s : Sto.St} {fs : List Fi} (h : Dirs s.now fs) (ho : s.off = false) {f : Fi} (hf : f ∈ fs) : Sto.read s (name f.n) = (0, (Sto.file s f.i).b) := by
  unfold Sto.read
  rw [if_neg (by rw [ho]; simp), if_neg (by rw [isName_name f.n (by have := (h.bd f hf).2; omega)]; simp), h.find hf]
theorem there_go {s : Sto.St} {all : List Fi} (hd : Dirs s.now all) (ho : s.off = false) (K : Nat) : ∀ (fs : List Fi) (pre : List (List UInt8)), (∀ f ∈ fs, f ∈ all) → Lies s (K + pre.length) fs →
    (fs.map Fi.n).foldl (fun out n => join out (told s n)) (numb K pre) = numb K (pre ++ flat fs)
  | [], pre, _, _ => by simp [flat]
  | f :: fs, pre, hm, hl => by
    obtain ⟨h1, h3⟩ := hl
    have ht : told s f.n = numb (K + pre.length) f.g := by
      unfold told
      rw [hd.read ho (hm f (by simp)), h1]
    rw [List.map_cons, List.foldl_cons, ht, join_numb, there_go hd ho K fs (pre ++ f.g) (fun x hx => hm x (by simp [hx])) (by rw [List.length_append, ← Nat.add_assoc]; exact h3)]
    congr 1
    unfold flat
    rw [List.flatMap_cons, List.append_assoc]
theorem there_of {s : Sto.St} {fs : List Fi} {k : Nat} (hd : Dirs s.now fs) (ho : s.off = false) (hl : Lies s k fs) : there s = numb k (flat fs) := by
  unfold there
  rw [hd.files]
  have := there_go hd ho k fs [] (fun _ h => h) hl
  simpa [numb] using this
end Wal
end Go.Proofs.YtaiokogbhfliiaaGreatDoor

namespace Go.Proofs.YtaiokogbhfliiaaGreatDoor
open Go.WideShapes

namespace Sto
section
variable {s : St} {n : Str} {l : Dir}
theorem meet_ways (s : St) (l : List Str) (hl : l.all isName = true) (ho : s.off = false) : ∃ p o, (meet s l).2 = { s with plan := p, off := o } ∧ ((meet s l).1 = 0 → o = false) := by
  unfold meet
  rw [if_neg (by rw [hl]; simp), if_neg (by rw [ho]; simp)]
  split
  · exact ⟨s.plan, s.off, rfl, fun _ => ho⟩
  · split
    · exact ⟨_, s.off, rfl, fun h => by cases h⟩
    · split
      · exact ⟨_, true, rfl, fun h => by cases h⟩
      · exact ⟨_, s.off, rfl, fun _ => ho⟩
theorem meet_plain (s : St) (l : List Str) (hl : l.all isName = true) (ho : s.off = false) (hp : s.plan = []) : meet s l = (0, s) := by
  unfold meet
  rw [if_neg (by rw [hl]; simp), if_neg (by rw [ho]; simp), hp]
theorem ins_last (x : Str × Nat) : ∀ l : Dir, (∀ p ∈ l, bytesBefore p.1 x.1 = true) → ins x l = l ++ [x]
  | [], _ => rfl
  | y :: r, h => by
    unfold ins
    have h1 := h y (by simp)
    have h2 : bytesBefore x.1 y.1 = false := by
      cases h3 : bytesBefore x.1 y.1 with
      | false => rfl
      | true =>
        have := bytes_trans _ _ _ h1 h3
        rw [WideAt.bytes_irrefl] at this; cases this
    rw [if_neg (by rw [h2]; simp), ins_last x r (fun p hp => h p (by simp [hp]))]; rfl
theorem ne_of_before {a b : Str} (h : bytesBefore a b = true) : a ≠ b := fun e => by
  rw [e, WideAt.bytes_irrefl] at h; cases h
theorem put_last (l : Dir) (n : Str) (i : Nat) (h : ∀ p ∈ l, bytesBefore p.1 n = true) : put l n i = l ++ [(n, i)] := by
  unfold put
  have e : del l n = l := by
    unfold del
    rw [List.filter_eq_self.2]
    intro p hp
    have := ne_of_before (h p hp)
    simp [this]
  rw [e, ins_last _ _ h]
end
end Sto
namespace Wal
/-- Files that were all made and synced. -/
structure Cl (s : Sto.St) (k : Nat) (fs : List Fi) : Prop where
  ok : Sto.Ok s
  off : s.off = false
  dir : Dirs s.now fs
  disk : s.disk = s.now
  kept : s.kept = []
  lies : Lies s k fs
  sync : ∀ f ∈ fs, (Sto.file s f.i).sure = (Sto.file s f.i).b.length
section
variable {s : Sto.St} {k N : Nat} {fs : List Fi} {f : Fi} {l : Lg}
theorem Cl.id_lt (h : Cl s k fs) (hf : f ∈ fs) : f.i < s.files.length := h.ok.find_lt (h.dir.find hf)
theorem Cl.ids (h : Cl s k fs) : Sto.ids s.now = fs.map Fi.i := by
  unfold Sto.ids
  rw [h.dir.eq, List.map_map]; rfl
theorem Cl.nd (h : Cl s k fs) : (fs.map Fi.i).Nodup := by rw [← h.ids]; exact h.ok.gnow.nd
theorem Cl.turn (h : Cl s k fs) (p : List UInt8) : Cl { s with plan := p, off := false } k fs :=
  ⟨h.ok.turn p false, rfl, h.dir, h.disk, h.kept, h.lies.congr (fun _ _ => rfl), h.sync⟩
/-- Behind any crash there is what some files told, and perhaps some more. -/
def Safe (s : Sto.St) (k : Nat) (F wt : List (List UInt8)) (N : Nat) : Prop := ∀ c keep, ∃ fs' i, Cl (Sto.crash s c keep) k fs' ∧ flat fs' = F ++ wt.take i ∧ ∀ f ∈ fs', f.n ≤ N
theorem Safe.turn {F wt : List (List UInt8)} (h : Safe s k F wt N) (p : List UInt8) (o : Bool) : Safe { s with plan := p, off := o } k F wt N := h
theorem Safe.mono {F wt : List (List UInt8)} {M : Nat} (h : Safe s k F wt N) (hm : N ≤ M) : Safe s k F wt M := fun c keep => by
  obtain ⟨fs', i, h1, h2, h3⟩ := h c keep
  exact ⟨fs', i, h1, h2, fun f hf => Nat.le_trans (h3 f hf) hm⟩
/-- A crash, told by the directory that is left. -/
theorem crash_cl (hok : Sto.Ok s) (c : Int) (keep : List Int) (hd : Dirs ((s.kept.take c.toNat).foldl Sto.made s.disk) fs) (hl : Lies (Sto.crash s c keep) k fs) : Cl (Sto.crash s c keep) k fs := by
  have hok2 := hok.crash c keep
  refine ⟨hok2, rfl, hd, rfl, rfl, hl, fun f hf => ?_⟩
  have hg := hok.hist c.toNat
  have hi : f.i ∈ Sto.ids ((s.kept.take c.toNat).foldl Sto.made s.disk) := by
    rw [hd.eq]; exact List.mem_map.2 ⟨f.ent, List.mem_map.2 ⟨f, hf, rfl⟩, rfl⟩
  obtain ⟨n, h1, h2⟩ := (Sto.cutAll_at keep _ 0 s.files hg.nd hok.sure hg.lt f.i).1 hi
  have e : Sto.file (Sto.crash s c keep) f.i = (Sto.cutAll keep 0 (Sto.ids ((s.kept.take c.toNat).foldl Sto.made s.disk)) s.files).getD f.i ⟨[], 0⟩ := rfl
  rw [e, h2]
  simp only [List.length_take]
  omega
theorem file_crash (hok : Sto.Ok s) (c : Int) (keep : List Int) (i : Nat) : Sto.Cut (Sto.file s i) (Sto.file (Sto.crash s c keep) i) ∨ Sto.file (Sto.crash s c keep) i = Sto.file s i := by
  have hg := hok.hist c.toNat
  have h := Sto.cutAll_at keep _ 0 s.files hg.nd hok.sure hg.lt i
  by_cases hi : i ∈ Sto.ids ((s.kept.take c.toNat).foldl Sto.made s.disk)
  · exact .inl (h.1 hi)
  · exact .inr (h.2 hi)
theorem file_crash_same (hok : Sto.Ok s) (c : Int) (keep : List Int) (i : Nat) (hs : (Sto.file s i).sure = (Sto.file s i).b.length) : Sto.file (Sto.crash s c keep) i = Sto.file s i := by
  rcases file_crash hok c keep i with h | h
  · exact h.whole hs
  · exact h
theorem Cl.crash (h : Cl s k fs) (c : Int) (keep : List Int) : Cl (Sto.crash s c keep) k fs :=
  crash_cl h.ok c keep (by rw [h.kept]; simp; rw [h.disk]; exact h.dir) (h.lies.congr (fun f hf => by rw [file_crash_same h.ok c keep f.i (h.sync f hf)]))
theorem Cl.safe (h : Cl s k fs) (hN : ∀ f ∈ fs, f.n ≤ N) (wt : List (List UInt8)) : Safe s k (flat fs) wt N := fun c keep => ⟨fs, 0, h.crash c keep, by simp, hN⟩
theorem name_all {n : Nat} (h : n < 1000000) : [name n].all Sto.isName = true := by simp [isName_name n h]
end
end Wal
end Go.Proofs.YtaiokogbhfliiaaGreatDoor

namespace Go.Proofs.YtaiokogbhfliiaaGreatDoor
open Go.WideShapes

namespace Sto
section
variable {s : St}
theorem file_old (x : Fl) {i : Nat} (h : i < s.files.length) : file { s with files := s.files ++ [x] } i = file s i := by
  unfold file
  rw [List.getD_eq_getElem?_getD, List.getElem?_append_left h, ← List.getD_eq_getElem?_getD]
theorem file_new (x : Fl) : file { s with files := s.files ++ [x] } s.files.length = x := by
  unfold file
  rw [List.getD_eq_getElem?_getD, List.getElem?_append_right (Nat.le_refl _)]; simp
theorem file_setF (i j : Nat) (x : Fl) : file (setF s i x) j = if i = j ∧ i < s.files.length then x else file s j := getD_set _ _ _ _ _
theorem syncDir_ways (s : St) (ho : s.off = false) : (∃ p o c, c ≠ 0 ∧ syncDir s = (c, { s with plan := p, off := o })) ∨ ∃ p, syncDir s = (0, { s with plan := p, off := false, disk := s.now, kept := [] }) := by
  obtain ⟨p, o, hm, ho2⟩ := meet_ways s [] rfl ho
  unfold syncDir
  simp only
  by_cases hc : (meet s []).1 = 0
  · right
    rw [if_neg (fun h => h hc), hm, ho2 hc]
    exact ⟨p, rfl⟩
  · left
    rw [if_pos hc]
    exact ⟨p, o, _, hc, Prod.ext rfl hm⟩
theorem syncDir_plain (s : St) (ho : s.off = false) (hp : s.plan = []) : syncDir s = (0, { s with disk := s.now, kept := [] }) := by
  unfold syncDir
  rw [meet_plain s [] rfl ho hp]
  simp only
  rw [if_neg (by simp)]
end
end Sto
namespace Wal
section
variable {s : Sto.St} {k N : Nat} {fs : List Fi} {f : Fi} {l : Lg}
theorem Dirs.more {d : Sto.Dir} (h : Dirs d fs) (n i : Nat) (hn : ∀ f ∈ fs, f.n < n) (h1 : 1 ≤ n) (h2 : n ≤ 999999) : Dirs (Sto.put d (name n) i) (fs ++ [⟨n, i, []⟩]) ∧ Sto.put d (name n) i = d ++ [(name n, i)] := by
  have e : Sto.put d (name n) i = d ++ [(name n, i)] := Sto.put_last d (name n) i (fun p hp => by
    rw [h.eq] at hp
    obtain ⟨f, hf, rfl⟩ := List.mem_map.1 hp
    exact name_less (hn f hf) (by omega))
  refine ⟨⟨?_, ?_, ?_⟩, e⟩
  · rw [e, h.eq, List.map_append]; rfl
  · rw [List.pairwise_append]
    refine ⟨h.inc, List.pairwise_singleton _ _, fun a ha b hb => ?_⟩
    rw [List.mem_singleton] at hb
    rw [hb]; exact hn a ha
  · intro f hf
    rcases List.mem_append.1 hf with hf | hf
    · exact h.bd f hf
    · rw [List.mem_singleton] at hf
      rw [hf]; exact ⟨h1, h2⟩
theorem find_new {d : Sto.Dir} (h : Dirs d fs) (n : Nat) (hn : ∀ f ∈ fs, f.n < n) (h2 : n ≤ 999999) : Sto.find d (name n) = none := by
  rw [Sto.find_none]
  intro p hp
  rw [h.eq] at hp
  obtain ⟨f, hf, rfl⟩ := List.mem_map.1 hp
  exact Sto.ne_of_before (name_less (hn f hf) (by omega))
/-- A store with one more file, whose name is not synced. -/
def Mid (s : Sto.St) (n : Nat) (p : List UInt8) (o : Bool) : Sto.St := { s with files := s.files ++ [⟨[], 0⟩], now := s.now ++ [(name n, s.files.length)], kept := [.put (name n) s.files.length], plan := p, off := o }
theorem create_ways (h : Cl s k fs) (n : Nat) (hn : ∀ f ∈ fs, f.n < n) (h1 : 1 ≤ n) (h2 : n ≤ 999999) :
    (∃ p o c, c ≠ 0 ∧ Sto.create s (name n) = (c, { s with plan := p, off := o })) ∨ ∃ p, Sto.create s (name n) = (0, Mid s n p false) := by
  obtain ⟨p, o, hm, ho⟩ := Sto.meet_ways s [name n] (name_all (by omega)) h.off
  unfold Sto.create
  simp only
  by_cases hc : (Sto.meet s [name n]).1 = 0
  · right
    rw [if_neg (by simp [hc]), hm, ho hc]
    have hf : Sto.find s.now (name n) = none := find_new h.dir n hn h2
    refine ⟨p, ?_⟩
    simp only
    rw [hf]
    simp only [Option.isSome_none]
    rw [if_neg (by simp)]
    unfold Sto.change Mid
    simp only [Sto.made, h.kept, List.nil_append, (h.dir.more n s.files.length hn h1 h2).2]
  · left
    rw [if_pos hc]
    exact ⟨p, o, (Sto.meet s [name n]).1, hc, Prod.ext rfl hm⟩
theorem mid_ok (h : Cl s k fs) (n : Nat) (hn : ∀ f ∈ fs, f.n < n) (h1 : 1 ≤ n) (h2 : n ≤ 999999) (p : List UInt8) (o : Bool) : Sto.Ok (Mid s n p o) := by
  have h3 := (h.ok.more.change (.put (name n) s.files.length) (by
    have hx := h.ok.more.gnow
    refine Sto.Good.put hx (name n) s.files.length (by simp) (fun hx2 => ?_)
    have := (h.ok.gnow.del (name n)).lt _ hx2
    omega) (fun i hi => by injection hi with hi; subst hi; simp)).turn p o
  unfold Sto.change at h3
  simp only [Sto.made, h.kept, List.nil_append, (h.dir.more n s.files.length hn h1 h2).2] at h3
  exact h3
theorem mid_lies {s' : Sto.St} (h : Cl s k fs) (n i : Nat) (he : ∀ f ∈ fs, (Sto.file s' f.i).b = (Sto.file s f.i).b) (hi : (Sto.file s' i).b = []) : Lies s' k (fs ++ [⟨n, i, []⟩]) :=
  Lies.app.2 ⟨h.lies.congr he, by rw [hi]; rfl, trivial⟩
theorem mid_safe (h : Cl s k fs) (n : Nat) (hn : ∀ f ∈ fs, f.n < n) (h1 : 1 ≤ n) (h2 : n ≤ 999999) (p : List UInt8) (o : Bool) (wt : List (List UInt8)) : Safe (Mid s n p o) k (flat fs) wt n := by
  intro c keep
  have hok := mid_ok h n hn h1 h2 p o
  have hfl : ∀ f ∈ fs, Sto.file (Sto.crash (Mid s n p o) c keep) f.i = Sto.file s f.i := fun f hf => by
    have e : Sto.file (Mid s n p o) f.i = Sto.file s f.i := Sto.file_old _ (h.id_lt hf)
    rw [file_crash_same hok c keep f.i (by rw [e]; exact h.sync f hf), e]
  have hnew : Sto.file (Sto.crash (Mid s n p o) c keep) s.files.length = ⟨[], 0⟩ := by
    have e : Sto.file (Mid s n p o) s.files.length = ⟨[], 0⟩ := Sto.file_new _
    rw [file_crash_same hok c keep _ (by rw [e]; rfl), e]
  by_cases hc : c.toNat = 0
  · refine ⟨fs, 0, crash_cl hok c keep ?_ ?_, by simp, fun f hf => Nat.le_of_lt (hn f hf)⟩
    · rw [hc]
      show Dirs s.disk fs
      rw [h.disk]; exact h.dir
    · exact h.lies.congr (fun f hf => by rw [hfl f hf])
  · refine ⟨fs ++ [⟨n, s.files.length, []⟩], 0, crash_cl hok c keep ?_ ?_, by simp [flat], fun f hf => ?_⟩
    · show Dirs ((([Sto.Chg.put (name n) s.files.length]).take c.toNat).foldl Sto.made s.disk) _
      rw [List.take_of_length_le (by simp; omega), h.disk]
      exact (h.dir.more n s.files.length hn h1 h2).1
    · exact mid_lies h n _ (fun f hf => by rw [hfl f hf]) (by rw [hnew])
    · rcases List.mem_append.1 hf with hf | hf
      · exact Nat.le_of_lt (hn f hf)
      · rw [List.mem_singleton] at hf; rw [hf]; exact Nat.le_refl _
theorem mid_done (h : Cl s k fs) (n : Nat) (hn : ∀ f ∈ fs, f.n < n) (h1 : 1 ≤ n) (h2 : n ≤ 999999) (p : List UInt8) : Cl { Mid s n p false with disk := (Mid s n p false).now, kept := [] } k (fs ++ [⟨n, s.files.length, []⟩]) := by
  have hok := mid_ok h n hn h1 h2 p false
  have hfl : ∀ f ∈ fs, Sto.file { Mid s n p false with disk := (Mid s n p false).now, kept := [] } f.i = Sto.file s f.i := fun f hf => Sto.file_old _ (h.id_lt hf)
  have hnew : Sto.file { Mid s n p false with disk := (Mid s n p false).now, kept := [] } s.files.length = ⟨[], 0⟩ := Sto.file_new _
  refine ⟨⟨fun j => by simpa using hok.gnow, rfl, hok.sure, hok.len, hok.room, fun _ hc => by cases hc⟩, rfl, ?_, rfl, rfl, mid_lies h n _ (fun f hf => by rw [hfl f hf]) (by rw [hnew]), fun f hf => ?_⟩
  · show Dirs (s.now ++ [(name n, s.files.length)]) _
    rw [← (h.dir.more n s.files.length hn h1 h2).2]
    exact (h.dir.more n s.files.length hn h1 h2).1
  · rcases List.mem_append.1 hf with hf | hf
    · rw [hfl f hf]; exact h.sync f hf
    · rw [List.mem_singleton] at hf
      rw [hf, hnew]; rfl
theorem mk_ways (h : Cl s k fs) (hl : ∀ f ∈ fs, f.n ≤ l.last) (hlast : l.last < 999999) (wt : List (List UInt8)) :
    ((mk s l).1 ≠ 0 ∧ (mk s l).2.2 = l ∧ Safe (mk s l).2.1 k (flat fs) wt (l.last + 1)) ∨
    ((mk s l).1 = 0 ∧ (mk s l).2.2 = { l with last := l.last + 1, size := 0 } ∧ ∃ i, Cl (mk s l).2.1 k (fs ++ [⟨l.last + 1, i, []⟩]) ∧ (Sto.file (mk s l).2.1 i).b = []) := by
  have hn : ∀ f ∈ fs, f.n < l.last + 1 := fun f hf => by have := hl f hf; omega
  unfold mk
  simp only
  rw [if_neg (by omega)]
  rcases create_ways h (l.last + 1) hn (by omega) (by omega) with ⟨p, o, c, hc, e⟩ | ⟨p, e⟩
  · left
    rw [e]
    simp only
    rw [if_pos hc]
    exact ⟨hc, rfl, ((h.safe (fun f hf => Nat.le_of_lt (hn f hf)) wt).turn p o)⟩
  · rw [e]
    simp only
    rw [if_neg (by simp)]
    rcases Sto.syncDir_ways (Mid s (l.last + 1) p false) rfl with ⟨p2, o2, c, hc, e2⟩ | ⟨p2, e2⟩
    · left
      rw [e2]
      simp only
      rw [if_pos hc]
      exact ⟨hc, rfl, mid_safe h (l.last + 1) hn (by omega) (by omega) p2 o2 wt⟩
    · right
      rw [e2]
      simp only
      rw [if_neg (fun h => h rfl)]
      refine ⟨rfl, rfl, s.files.length, mid_done h (l.last + 1) hn (by omega) (by omega) p2, ?_⟩
      have hnew : Sto.file { Mid s (l.last + 1) p2 false with disk := (Mid s (l.last + 1) p2 false).now, kept := [] } s.files.length = ⟨[], 0⟩ := Sto.file_new _
      exact congrArg Sto.Fl.b hnew
/-- Where nothing fails. -/
theorem mk_plain (h : Cl s k fs) (hl : ∀ f ∈ fs, f.n ≤ l.last) (hlast : l.last < 999999) (hp : s.plan = []) :
    (mk s l).1 = 0 ∧ (mk s l).2.1.plan = [] ∧ (mk s l).2.1.room = s.room ∧ Sto.size (mk s l).2.1 = Sto.size s := by
  have hn : ∀ f ∈ fs, f.n < l.last + 1 := fun f hf => by have := hl f hf; omega
  have e : Sto.create s (name (l.last + 1)) = (0, Mid s (l.last + 1) [] false) := by
    unfold Sto.create
    simp only
    rw [Sto.meet_plain s _ (name_all (by omega)) h.off hp]
    have hf : Sto.find s.now (name (l.last + 1)) = none := find_new h.dir _ hn (by omega)
    simp only
    rw [hf]
    simp only [Option.isSome_none]
    rw [if_neg (by simp), if_neg (by simp)]
    unfold Sto.change Mid
    simp only [Sto.made, h.kept, List.nil_append, (h.dir.more (l.last + 1) s.files.length hn (by omega) (by omega)).2, hp, h.off]
  unfold mk
  simp only
  rw [if_neg (by omega), e]
  simp only
  rw [if_neg (by simp)]
  rw [Sto.syncDir_plain (Mid s (l.last + 1) [] false) rfl rfl]
  simp only
  rw [if_neg (fun h => h rfl)]
  refine ⟨rfl, rfl, rfl, ?_⟩
  show ((s.now ++ [(name (l.last + 1), s.files.length)]).map _).sum = _
  rw [List.map_append, List.sum_append, List.map_cons, List.map_nil]
  have e2 : (Sto.file { Mid s (l.last + 1) [] false with disk := (Mid s (l.last + 1) [] false).now, kept := [] } s.files.length) = ⟨[], 0⟩ := Sto.file_new _
  simp only
  rw [e2]
  simp only [List.length_nil, List.sum_cons, List.sum_nil, Nat.add_zero]
  unfold Sto.size
  congr 1
  refine List.map_congr_left (fun q hq => ?_)
  have hlt : q.2 < s.files.length := h.ok.gnow.lt _ (List.mem_map.2 ⟨q, hq, rfl⟩)
  exact congrArg (fun x : Sto.Fl => x.b.length) (Sto.file_old (s := s) ⟨[], 0⟩ hlt)
end
end Wal
end Go.Proofs.YtaiokogbhfliiaaGreatDoor

namespace Go.Proofs.YtaiokogbhfliiaaGreatDoor
open Go.WideShapes

namespace Wal
/-- A log beside its files: all made, the last one its own; what waits. -/
structure Lo (s : Sto.St) (k : Nat) (fs : List Fi) (f : Fi) (l : Lg) (wt : List (List UInt8)) : Prop where
  cl : Cl s k (fs ++ [f])
  last : l.last = f.n
  clean : (Sto.file s f.i).b = bytes (numb (k + (flat fs).length) f.g)
  brk : l.broken = false
  wait : l.waiting = numb (k + (flat (fs ++ [f])).length) wt
  next : l.next = k + (flat (fs ++ [f])).length + wt.length
  pos : 1 ≤ k
  top : l.next ≤ 1099511627777
  fit : ∀ b ∈ f.g ++ wt, b.length ≤ 65000
section
variable {s : Sto.St} {k N : Nat} {fs : List Fi} {f : Fi} {l : Lg} {wt : List (List UInt8)}
theorem Lo.inc (h : Lo s k fs f l wt) : ∀ g ∈ fs ++ [f], g.n ≤ l.last := by
  intro g hg
  rcases List.mem_append.1 hg with hg | hg
  · have := (List.pairwise_append.1 h.cl.dir.inc).2.2 g hg f (by simp)
    rw [h.last]; omega
  · rw [List.mem_singleton] at hg
    rw [hg, h.last]; exact Nat.le_refl _
/-- What Commit writes into. -/
structure Rm (s : Sto.St) (k : Nat) (fs : List Fi) (f : Fi) : Prop where
  cl : Cl s k (fs ++ [f])
  clean : (Sto.file s f.i).b = bytes (numb (k + (flat fs).length) f.g)
theorem Rm.other (h : Rm s k fs f) {g : Fi} (hg : g ∈ fs) : f.i ≠ g.i := by
  have := h.cl.nd
  rw [List.map_append, List.nodup_append] at this
  exact fun e => this.2.2 g.i (List.mem_map.2 ⟨g, hg, rfl⟩) f.i (by simp) e.symm
/-- The last file, turned. -/
theorem Rm.lies (h : Rm s k fs f) {s' : Sto.St} {gs : List (List UInt8)} (he : ∀ g ∈ fs, Sto.file s' g.i = Sto.file s g.i) (ht : tells none (scan (Sto.file s' f.i).b) = numb (k + (flat fs).length) gs) : Lies s' k (fs ++ [⟨f.n, f.i, gs⟩]) := by
  have h1 := (Lies.app.1 h.cl.lies).1
  exact Lies.app.2 ⟨h1.congr (fun g hg => by rw [he g hg]), ht, trivial⟩
theorem Rm.dirs (h : Rm s k fs f) (gs : List (List UInt8)) : Dirs s.now (fs ++ [⟨f.n, f.i, gs⟩]) := by
  refine ⟨by rw [h.cl.dir.eq, List.map_append, List.map_append]; rfl, ?_, fun g hg => ?_⟩
  · have h1 := List.pairwise_append.1 h.cl.dir.inc
    rw [List.pairwise_append]
    refine ⟨h1.1, List.pairwise_singleton _ _, fun a ha b hb => ?_⟩
    rw [List.mem_singleton] at hb
    rw [hb]
    exact h1.2.2 a ha f (by simp)
  · rcases List.mem_append.1 hg with hg | hg
    · exact h.cl.dir.bd g (by simp [hg])
    · rw [List.mem_singleton] at hg
      rw [hg]
      exact h.cl.dir.bd f (by simp)
/-- The bytes of all that waits are behind, but not sure. -/
def Put (s : Sto.St) (f : Fi) (W : List UInt8) (p : List UInt8) (o : Bool) : Sto.St := Sto.setF { s with plan := p, off := o } f.i ⟨(Sto.file s f.i).b ++ W, (Sto.file s f.i).sure⟩
theorem Rm.id (h : Rm s k fs f) : f.i < s.files.length := h.cl.id_lt (by simp)
end
end Wal
end Go.Proofs.YtaiokogbhfliiaaGreatDoor
