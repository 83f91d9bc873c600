/- Parts of the proof, one behind the other: Blocks: what the plain codes are; contracts of word, common, the program's and the reference's.; Blocks: the plain building; pairs in memory; two rows of bytes that grow. -/
import Derived.Test.YtgafionfojnieaaGreatDoorMrg04
import Derived.Test.YtgafionfojnieaaGreatDoorMrg15
import Derived.Test.YtgafionfojnieaaGreatDoorMrg16
import Derived.Deep.QuietTactic
import Derived.BigQuiet
import Derived.Lib.Builder
namespace Go.Proofs.YtgafionfojnieaaGreatDoor
open Go.RowKit
open Lib (hid)
namespace Blk
def common : List UInt8 → List UInt8 → Nat
 | a :: l, b :: m => if a = b then common l m + 1 else 0
 | _, _ => 0
theorem common_le (a b : List UInt8) : common a b ≤ a.length ∧ common a b ≤ b.length := by
 induction a generalizing b with
 | nil => simp [common]
 | cons x a ih =>
   cases b with
   | nil => simp [common]
   | cons y b =>
     unfold common
     have := ih b
     split <;> simp <;> omega
theorem common_end (a b : List UInt8) (k : Nat) (h : a.length ≤ k ∨ b.length ≤ k) : common (a.drop k) (b.drop k) = 0 := by
 rcases h with h | h
 · rw [List.drop_eq_nil_of_le h]; rfl
 · rw [List.drop_eq_nil_of_le h]; cases a.drop k <;> rfl
theorem common_step (a b : List UInt8) (k : Nat) (ha : k < a.length) (hb : k < b.length) : common (a.drop k) (b.drop k) = if a[k] = b[k] then common (a.drop (k + 1)) (b.drop (k + 1)) + 1 else 0 := by
 rw [List.drop_eq_getElem_cons ha, List.drop_eq_getElem_cons hb]; rfl
end Blk
theorem own_byte4 (w : World) (x y z u : Int) (a b c d : UInt8) (ha : (a.toNat : Int) = x) (hb : (b.toNat : Int) = y) (hc : (c.toNat : Int) = z) (hd : (d.toNat : Int) = u) :
   Own (w.alloc (.cells #[.int .u8 x, .int .u8 y, .int .u8 z, .int .u8 u] 5)) w.heap.size 5 (some ⟨w.heap.size, 0, none⟩) 4 [a, b, c, d] := by
 subst ha hb hc hd
 exact World.ownsRow_lit (e := 5) (size := 1) w #[.int .u8 (a.toNat : Int), .int .u8 (b.toNat : Int), .int .u8 (c.toNat : Int), .int .u8 (d.toNat : Int)] 4 (Nat.le_refl _) (by unfold maxLen; omega) rfl
theorem word_any (n : Nat) (w : World) : Calls Tryz.prog 79 #[.int .i64 (n : Int)] w (GivesB w (Frm.be4 n)) := by
 go_enter Tryz.func79, Tryz.ntmps79
 go_wp2_with fail
 go_ret
 exact ⟨_, _, rfl, own_byte4 _ _ _ _ _ _ _ _ _ (byteMod _ _ (by first | omega | (rw [IntKind.wrap_u8]; omega))) (byteMod _ _ (by first | omega | (rw [IntKind.wrap_u8]; omega))) (byteMod _ _ (by first | omega | (rw [IntKind.wrap_u8]; omega))) (byteMod _ _ (by first | omega | (rw [IntKind.wrap_u8]; omega))), (Below.refl _ _).alloc (Nat.le_refl _) _⟩
set_option maxHeartbeats 1000000 in
theorem common_any (A : Option Addr) (c : Nat) (a : List UInt8) (B : Option Addr) (d : Nat) (b : List UInt8) (w : World) (h : RdB w w.heap.size A a) (h2 : RdB w w.heap.size B b) (ha : a.length ≤ 4611686018427387904) (hb : b.length ≤ 4611686018427387904) :
   Calls Tryz.prog 80 #[.slice A a.length c, .slice B b.length d] w fun e w' => e = .returned (.int .i64 (Blk.common a b : Int)) ∧ Below w.heap.size w w' := by
 have HA := hid h; have HB := hid h2
 clear h h2
 have hcase : a.length ≤ b.length ∨ b.length < a.length := by omega
 rcases hcase with hle | hle
 all_goals
   go_enter Tryz.func80, Tryz.ntmps80
   go_wp2_with fail
   go_loopw [13] (fun i wr => ∃ k : Nat, k ≤ a.length ∧ k ≤ b.length ∧ i = .int .i64 (k : Int) ∧ Hid (Blk.common (a.drop k) (b.drop k) + k = Blk.common a b) ∧ Hid (Below w.heap.size w wr)) (fun i _ => a.length - (intOf i).toNat)
   case atStart => exact ⟨0, by omega, by omega, rfl, hid rfl, hid (Below.refl _ _)⟩
   case round =>
     obtain ⟨k, hk1, hk2, rfl, HI, HW⟩ := hrel
     by_cases hlt : k < a.length ∧ k < b.length
     · obtain ⟨la, lb⟩ := hlt
       obtain ⟨ad, rfl, _, hc⟩ := (HA.out.below HW.out (Nat.le_refl _)).cell la
       obtain ⟨ad2, rfl, _, hc2⟩ := (HB.out.below HW.out (Nat.le_refl _)).cell lb
       have HS := hid (Blk.common_step a b k la lb)
       obtain ⟨x, hx⟩ : ∃ x, x = a[k] := ⟨_, rfl⟩
       obtain ⟨y, hy⟩ : ∃ y, y = b[k] := ⟨_, rfl⟩
       rw [← hx] at hc HS
       rw [← hy] at hc2 HS
       clear hx hy
       obtain ⟨X, hX⟩ : ∃ X : Int, X = (x.toNat : Int) := ⟨_, rfl⟩
       obtain ⟨Y, hY⟩ : ∃ Y : Int, Y = (y.toNat : Int) := ⟨_, rfl⟩
       rw [← hX] at hc
       rw [← hY] at hc2
       by_cases hxy : x = y
       · have d1 : (X == Y) = true := by rw [hX, hY, hxy]; simp
         have d2 : (X != Y) = false := by rw [hX, hY, hxy]; simp
         have HN : Hid (Blk.common (a.drop (k + 1)) (b.drop (k + 1)) + (k + 1) = Blk.common a b) := hid (by have := HS.out; rw [if_pos hxy] at this; rw [← HI.out, this]; omega)
         clear hX hY hxy
         go_wp2_with fail
         go_quiet (fail)
         go_wp2_with fail
         go_round
         case rel => exact ⟨k + 1, by omega, by omega, by go_num, HN, hid (HW.out.trans (below_row wr _ #[] |>.mono HW.out.size))⟩
         case measure => simp [intOf]; omega
       · have hne : ¬ X = Y := fun h => hxy (by rw [hX, hY] at h; exact UInt8.toNat.inj (by omega))
         have d1 : (X == Y) = false := by simpa using hne
         have d2 : (X != Y) = true := by simpa using hne
         have HN : Hid (Blk.common a b = k) := hid (by have := HS.out; rw [if_neg hxy] at this; rw [← HI.out, this]; omega)
         clear hX hY hxy hne
         go_wp2_with fail
         go_quiet (fail)
         go_wp2_with fail
         go_ret
         exact ⟨by rw [HN.out]; rfl, HW.out.trans (below_row wr _ #[] |>.mono HW.out.size)⟩
     · have HN : Hid (Blk.common a b = k) := hid (by rw [← HI.out, Blk.common_end a b k (by omega)]; omega)
       have hn1 : ¬ (k < a.length ∧ k < b.length) := hlt
       clear hlt
       first
         | (have hk4 : k = a.length := by omega
            clear hn1
            subst hk4
            go_wp2_with fail
            go_ret
            exact ⟨by rw [HN.out]; rfl, HW.out⟩)
         | (have hk4 : k = b.length := by omega
            clear hn1
            subst hk4
            go_wp2_with fail
            go_ret
            exact ⟨by rw [HN.out]; rfl, HW.out⟩)
structure Pr where
 k : List UInt8
 v : List UInt8
namespace Blk
def entry (n : Nat) (p : Pr) : List UInt8 := Cod.number n ++ Cod.text (p.k.drop n) ++ Cod.text p.v
structure St where
 out : List UInt8
 heads : List Nat
 last : List UInt8
 i : Nat
def step (every : Nat) (s : St) (p : Pr) : St :=
 if s.i % every = 0 then ⟨s.out ++ entry 0 p, s.heads ++ [s.out.length], p.k, s.i + 1⟩ else ⟨s.out ++ entry (common s.last p.k) p, s.heads, p.k, s.i + 1⟩
def run (every : Nat) (l : List Pr) : St := l.foldl (step every) ⟨[], [], [], 0⟩
def hb (l : List Nat) : List UInt8 := l.flatMap Frm.be4
def build (every : Nat) (l : List Pr) : List UInt8 := (run every l).out ++ hb (run every l).heads ++ Frm.be4 (run every l).heads.length ++ [UInt8.ofNat every]
def Srt (l : List Pr) (k : Nat) : Prop := ∀ i (h : i < l.length), 0 < i → i < k → Op.bytesLess (l[i - 1]'(by omega)).k l[i].k = true
def srt (l : List Pr) : Bool := (List.range l.length).all fun i => i == 0 || Op.bytesLess ((l[i - 1]?).getD ⟨[], []⟩).k ((l[i]?).getD ⟨[], []⟩).k
theorem srt_iff (l : List Pr) : srt l = true ↔ Srt l l.length := by
 unfold srt Srt
 rw [List.all_eq_true]
 constructor
 · intro h i hi h0 _
   have := h i (List.mem_range.2 hi)
   rw [List.getElem?_eq_getElem hi, List.getElem?_eq_getElem (by omega : i - 1 < l.length)] at this
   simp only [Option.getD_some, Bool.or_eq_true, beq_iff_eq] at this
   rcases this with h1 | h1
   · omega
   · exact h1
 · intro h i hi
   have hi' := List.mem_range.1 hi
   rcases Nat.eq_zero_or_pos i with h0 | h0
   · simp [h0]
   · rw [List.getElem?_eq_getElem hi', List.getElem?_eq_getElem (by omega : i - 1 < l.length)]
     simp only [Option.getD_some, Bool.or_eq_true]
     exact .inr (h i hi' h0 hi')
theorem srt_no {l : List Pr} {i : Nat} (h : i < l.length) (h0 : 0 < i) (hb : Op.bytesLess (l[i - 1]'(by omega)).k l[i].k = false) : srt l = false := by
 cases hs : srt l with
 | false => rfl
 | true => have := (srt_iff l).1 hs i h h0 h; rw [hb] at this; cases this
theorem Srt.step {l : List Pr} {k : Nat} (h : Srt l k) (hk : k < l.length) (hb : 0 < k → Op.bytesLess (l[k - 1]'(by omega)).k l[k].k = true) : Srt l (k + 1) := by
 intro i hi h0 hik
 rcases Nat.lt_or_ge i k with h1 | h1
 · exact h i hi h0 h1
 · have : i = k := by omega
   subst this
   exact hb h0
theorem run_succ (e : Nat) (l : List Pr) (k : Nat) (h : k < l.length) : run e (l.take (k + 1)) = step e (run e (l.take k)) l[k] := by
 unfold run
 rw [List.take_succ_eq_append_getElem h, List.foldl_append]; rfl
theorem step_i (e : Nat) (s : St) (p : Pr) : (step e s p).i = s.i + 1 := by unfold step; split <;> rfl
theorem step_last (e : Nat) (s : St) (p : Pr) : (step e s p).last = p.k := by unfold step; split <;> rfl
theorem run_i (e : Nat) (l : List Pr) (k : Nat) (h : k ≤ l.length) : (run e (l.take k)).i = k := by
 induction k with
 | zero => rfl
 | succ k ih => rw [run_succ e l k (by omega), step_i, ih (by omega)]
theorem run_last (e : Nat) (l : List Pr) (k : Nat) (h : k < l.length) : (run e (l.take (k + 1))).last = l[k].k := by rw [run_succ e l k h, step_last]
theorem entry_len (n : Nat) (p : Pr) (hn : n < 18446744073709551616) (hk : p.k.length ≤ 100000) (hv : p.v.length ≤ 100000) : (entry n p).length ≤ 200030 := by
 unfold entry Cod.text
 have h1 := Cod.number_len hn
 have h2 := Cod.number_len (n := (p.k.drop n).length) (by rw [List.length_drop]; omega)
 have h3 := Cod.number_len (n := p.v.length) (by omega)
 simp only [List.length_append, List.length_drop] at h2 ⊢
 omega
theorem step_len (e : Nat) (s : St) (p : Pr) (hk : p.k.length ≤ 100000) (hv : p.v.length ≤ 100000) : (step e s p).out.length ≤ s.out.length + 200030 ∧ (step e s p).heads.length ≤ s.heads.length + 1 := by
 unfold step
 have hc := (common_le s.last p.k).2
 split
 · have := entry_len 0 p (by omega) hk hv
   exact ⟨by simp; omega, by simp⟩
 · have := entry_len (common s.last p.k) p (by omega) hk hv
   exact ⟨by simp; omega, by simp⟩
theorem run_len (e : Nat) (l : List Pr) (hl : ∀ p ∈ l, p.k.length ≤ 100000 ∧ p.v.length ≤ 100000) (k : Nat) (h : k ≤ l.length) : (run e (l.take k)).out.length ≤ k * 200030 ∧ (run e (l.take k)).heads.length ≤ k := by
 induction k with
 | zero => exact ⟨Nat.le_refl _, Nat.le_refl _⟩
 | succ k ih =>
   rw [run_succ e l k (by omega)]
   obtain ⟨h1, h2⟩ := hl _ (List.getElem_mem (by omega : k < l.length))
   have h3 := step_len e (run e (l.take k)) l[k] h1 h2
   have := ih (by omega)
   omega
theorem hb_len (l : List Nat) : (hb l).length = l.length * 4 := by
 unfold hb
 induction l with
 | nil => rfl
 | cons a l ih => rw [List.flatMap_cons, List.length_append, ih, List.length_cons]; simp [Frm.be4]; omega
theorem hb_snoc (l : List Nat) (n : Nat) : hb (l ++ [n]) = hb l ++ Frm.be4 n := by simp [hb]
end Blk
structure Pv where
 kA : Option Addr
 kc : Nat
 k : List UInt8
 vA : Option Addr
 vc : Nat
 v : List UInt8
def Pv.cells (p : Pv) : List Value := [.slice p.kA p.k.length p.kc, .slice p.vA p.v.length p.vc]
def Pv.pr (p : Pv) : Pr := ⟨p.k, p.v⟩
structure Pv.Ok (w : World) (B : Nat) (p : Pv) : Prop where
 key : RdB w B p.kA p.k
 val : RdB w B p.vA p.v
 kc : p.k.length ≤ p.kc
 vc : p.v.length ≤ p.vc
 kcm : p.kc ≤ 9223372036854775807
 vcm : p.vc ≤ 9223372036854775807
structure RdPv (w : World) (B : Nat) (A : Option Addr) (l : List Pv) : Prop where
 row : RdS Pv.cells 2 w B A l
 ok : ∀ p ∈ l, Pv.Ok w B p
theorem Pv.Ok.below {w w' : World} {B D : Nat} {p : Pv} (h : Pv.Ok w B p) (hb : Below D w w') (hD : B ≤ D) : Pv.Ok w' B p := ⟨h.key.below hb hD, h.val.below hb hD, h.kc, h.vc, h.kcm, h.vcm⟩
theorem Pv.Ok.more {w : World} {B B' : Nat} {p : Pv} (h : Pv.Ok w B p) (hB : B ≤ B') : Pv.Ok w B' p := ⟨h.key.more hB, h.val.more hB, h.kc, h.vc, h.kcm, h.vcm⟩
theorem RdPv.below {w w' : World} {B D : Nat} {A : Option Addr} {l : List Pv} (h : RdPv w B A l) (hb : Below D w w') (hD : B ≤ D) : RdPv w' B A l := ⟨h.row.below hb hD, fun p hp => (h.ok p hp).below hb hD⟩
theorem RdPv.more {w : World} {B B' : Nat} {A : Option Addr} {l : List Pv} (h : RdPv w B A l) (hB : B ≤ B') : RdPv w B' A l := ⟨h.row.more hB, fun p hp => (h.ok p hp).more hB⟩
theorem RdPv.row2 {w : World} {B : Nat} {A : Option Addr} {l : List Pv} (h : RdPv w B A l) (hl : 0 < l.length) : ∃ b off, A = some ⟨b, off, none⟩ ∧ b < B ∧ ∀ k (hk : k < l.length), w.cell? ⟨b, off + k * 2, none⟩ = some (.slice l[k].kA l[k].k.length l[k].kc) ∧
   w.cell? ⟨b, off + k * 2 + 1, none⟩ = some (.slice l[k].vA l[k].v.length l[k].vc) := by
 obtain ⟨b, off, hA, hb, hc⟩ := RdS.row (f := Pv.cells) (n := 2) (fun _ => rfl) (by omega) h.row hl
 exact ⟨b, off, hA, hb, fun k hk => ⟨hc k hk 0 _ rfl, hc k hk 1 _ rfl⟩⟩
structure Two (w : World) (base : Nat) (A1 : Option Addr) (c1 : Nat) (o : List UInt8) (A2 : Option Addr) (c2 : Nat) (h : List UInt8) (wr : World) : Prop where
 own1 : Own wr base 5 A1 c1 o
 own2 : Own wr base 5 A2 c2 h
 apt : ∀ g, blk A1 = some g → blk A2 ≠ some g
 below : Below base w wr
 size : base ≤ wr.heap.size
section
variable {w wr w2 : World} {base : Nat} {A1 A2 A' : Option Addr} {c1 c2 c' : Nat} {o h o' : List UInt8}
theorem Two.call (H : Two w base A1 c1 o A2 c2 h wr) (hb : Below wr.heap.size wr w2) : Two w base A1 c1 o A2 c2 h w2 :=
 ⟨H.own1.below hb, H.own2.below hb, H.apt, H.below.trans (hb.mono H.size), Nat.le_trans H.size hb.size⟩
theorem Two.alloc (H : Two w base A1 c1 o A2 c2 h wr) (ob : Obj) : Two w base A1 c1 o A2 c2 h (wr.alloc ob) := H.call ((Below.refl _ _).alloc (Nat.le_refl _) _)
theorem Two.swap (H : Two w base A1 c1 o A2 c2 h wr) : Two w base A2 c2 h A1 c1 o wr := ⟨H.own2, H.own1, fun g h2 h1 => H.apt g h1 h2, H.below, H.size⟩
theorem Two.app1 (H : Two w base A1 c1 o A2 c2 h wr) (ho : Own w2 base 5 A' c' o') (hg : wr.grownBy w2 (blk A1)) (hat : blk A' = blk A1 ∨ blk A' = some wr.heap.size) : Two w base A' c' o' A2 c2 h w2 := by
 refine ⟨ho, H.own2.kept hg ?_, ?_, below_grow H.below hg (fun g hg' => (H.own1.blk_ge g hg').1) H.size, Nat.le_trans H.size hg.size⟩
 · rcases h2 : blk A2 with _ | g
   · exact .inl rfl
   · exact .inr (fun e => H.apt g e.symm h2)
 · intro g e
   rcases hat with h1 | h1
   · exact H.apt g (h1 ▸ e)
   · intro e2
     have := (H.own2.blk_ge g e2).2
     rw [h1] at e; injection e with e; omega
theorem Two.app2 (H : Two w base A1 c1 o A2 c2 h wr) (ho : Own w2 base 5 A' c' o') (hg : wr.grownBy w2 (blk A2)) (hat : blk A' = blk A2 ∨ blk A' = some wr.heap.size) : Two w base A1 c1 o A' c' o' w2 := (H.swap.app1 ho hg hat).swap
end
structure BoxAt (g : Nat) (X : Obj) (A1 A2 : Option Addr) (wr : World) : Prop where
 box : wr.heap[g]? = some X
 n1 : blk A1 ≠ some g
 n2 : blk A2 ≠ some g
section
variable {w wr w2 : World} {base g : Nat} {X : Obj} {A1 A2 A' : Option Addr} {c1 c2 : Nat} {o h : List UInt8}
theorem BoxAt.lt (H : BoxAt g X A1 A2 wr) : g < wr.heap.size := by
 rcases Nat.lt_or_ge g wr.heap.size with h | h
 · exact h
 · have := H.box; rw [Array.getElem?_eq_none h] at this; cases this
theorem BoxAt.new (H : Two w base A1 c1 o A2 c2 h wr) (X : Obj) : BoxAt wr.heap.size X A1 A2 (wr.alloc X) :=
 ⟨heap_alloc_new wr X, fun e => by have := (H.own1.blk_ge _ e).2; omega, fun e => by have := (H.own2.blk_ge _ e).2; omega⟩
theorem BoxAt.call (H : BoxAt g X A1 A2 wr) (hb : Below wr.heap.size wr w2) : BoxAt g X A1 A2 w2 := ⟨(hb.block _ H.lt).trans H.box, H.n1, H.n2⟩
theorem BoxAt.alloc (H : BoxAt g X A1 A2 wr) (ob : Obj) : BoxAt g X A1 A2 (wr.alloc ob) := H.call ((Below.refl _ _).alloc (Nat.le_refl _) _)
theorem BoxAt.app1 (H : BoxAt g X A1 A2 wr) (hg : wr.grownBy w2 (blk A1)) (hat : blk A' = blk A1 ∨ blk A' = some wr.heap.size) : BoxAt g X A' A2 w2 := by
 refine ⟨(hg.block _ H.lt (fun e => H.n1 e.symm)).trans H.box, ?_, H.n2⟩
 rcases hat with h1 | h1
 · rw [h1]; exact H.n1
 · rw [h1]; intro e; injection e with e; have := H.lt; omega
theorem BoxAt.swap (H : BoxAt g X A1 A2 wr) : BoxAt g X A2 A1 wr := ⟨H.box, H.n2, H.n1⟩
theorem BoxAt.app2 (H : BoxAt g X A1 A2 wr) (hg : wr.grownBy w2 (blk A2)) (hat : blk A' = blk A2 ∨ blk A' = some wr.heap.size) : BoxAt g X A1 A' w2 := (H.swap.app1 hg hat).swap
theorem BoxAt.cell0 {x y : Value} {T : TypeId} (H : BoxAt g (.cells #[x, y] T) A1 A2 wr) : wr.cell? ⟨g, 0, none⟩ = some x := by rw [Lib.cell_of_heap H.box]; rfl
theorem BoxAt.cell1 {x y : Value} {T : TypeId} (H : BoxAt g (.cells #[x, y] T) A1 A2 wr) : wr.cell? ⟨g, 1, none⟩ = some y := by rw [Lib.cell_of_heap H.box]; rfl
end
def GivesR (w : World) (err : Int) (l : List UInt8) (e : Ending) (w' : World) : Prop := Below w.heap.size w w' ∧
 ((err ≠ 0 ∧ e = .returned (.tuple #[.slice none 0 0, .int .i64 err])) ∨ (err = 0 ∧ ∃ A c, e = .returned (.tuple #[.slice A l.length c, .int .i64 0]) ∧ Own w' w.heap.size 5 A c l))
def Blk.err (E : Int) (l : List Pr) : Int := if E < 1 ∨ 64 < E ∨ 20000 < l.length then 1 else if Blk.srt l then 0 else 10
end Go.Proofs.YtgafionfojnieaaGreatDoor
