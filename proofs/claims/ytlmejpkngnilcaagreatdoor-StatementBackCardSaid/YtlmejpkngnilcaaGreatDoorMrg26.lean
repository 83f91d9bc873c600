/- Parts of the proof, one behind the other: Contracts of Parse, the program's and the reference's. -/
import Derived.Test.YtlmejpkngnilcaaGreatDoorMrg24
import Derived.Test.YtlmejpkngnilcaaGreatDoorMrg25
import Derived.Test.YtlmejpkngnilcaaGreatDoorMrg23
import Derived.HandedShaped
import Derived.Outline
namespace Go.Proofs.YtlmejpkngnilcaaGreatDoor
open Go.RowKit

def HasMax (w : World) : Prop := ∃ m, w.cell? ⟨3, 0, none⟩ = some (.int .i64 m)
theorem HasMax.below {w w' : World} (h : HasMax w) (hb : Below w.heap.size w w') : HasMax w' := by
  obtain ⟨m, hm⟩ := h
  have hl := World.block_lt_of_cell? w _ hm
  exact ⟨m, (hb.cell hl).trans hm⟩
theorem split_any (s : ByteArray) (w : World) (hs : s.size < 4294967281) (hm : HasMax w) (L : List ByteArray) (hL : L = Lib.splitB ⟨#[45]⟩ 0 (Lib.countB s ⟨#[45]⟩) s) (C : Nat) (hC : C = Lib.countB s ⟨#[45]⟩) :
    Calls Tryz.prog 29 #[.string s, .string ⟨#[45]⟩] w fun e w' => e = .returned (.slice (some ⟨w.heap.size, 0, none⟩) (C + 1) (C + 1)) ∧ w' = w.alloc (.cells (L.map Value.string).toArray 9) := by
  obtain ⟨m, hm⟩ := hm
  refine (Tryz.strings_Split s ⟨#[45]⟩ m w hs hm (by decide)).mono ?_
  rintro e w' ⟨rfl, rfl⟩
  subst hL hC
  exact ⟨rfl, rfl⟩
theorem pred (w : World) : PredAt Tryz.prog 80 #[] encR Prs.odd w := fun W r _ => by
  unfold FnGives
  by_cases h1 : (r : Int) < 48
  · have e : Prs.odd r = true := by unfold Prs.odd; simp; omega
    have E := Lib.hid e; clear e
    go_enter Tryz.func80, Tryz.ntmps80
    go_wp2
    go_ret
    exact ⟨ret_bool E.out.symm, 0, rfl⟩
  · by_cases h2 : 57 < (r : Int)
    · have e : Prs.odd r = true := by unfold Prs.odd; simp; omega
      have E := Lib.hid e; clear e
      go_enter Tryz.func80, Tryz.ntmps80
      go_wp2
      go_ret
      exact ⟨ret_bool E.out.symm, 0, rfl⟩
    · have e : Prs.odd r = false := by unfold Prs.odd; simp; omega
      have E := Lib.hid e; clear e
      go_enter Tryz.func80, Tryz.ntmps80
      go_wp2
      go_ret
      exact ⟨ret_bool E.out.symm, 0, rfl⟩
theorem contains_any (x : ByteArray) (b : Bool) (hb : b = !Prs.digs x.data.toList) (w : World) :
    Calls Tryz.prog 79 #[.string x, .func (.func 80) #[] #[]] w fun e w' => e = .returned (.bool b) ∧ Below w.heap.size w w' := by
  refine (Tryz.strings_ContainsFunc 80 #[] (enters_of Tryz.func80 (by kernel_rfl) rfl) Prs.odd x w (pred w)).mono ?_
  rintro e w' ⟨rfl, hb2⟩
  exact ⟨by rw [Prs.odd_digs, hb], hb2⟩
theorem below_bytesW (w : World) (e : TypeId) (s : ByteArray) : Below w.heap.size w (Lib.bytesWorld w e s) := by
  refine ⟨rfl, rfl, rfl, by rw [Lib.bytesWorld_size]; omega, fun i hi => Lib.bytesWorld_at_old w e s i hi⟩
theorem atoi_any (x : ByteArray) (n : Nat) (hn : n = Prs.dval 0 x.data.toList) (hd : Prs.digs x.data.toList = true) (h0 : 0 < x.size) (h4 : x.size ≤ 18) (w : World) :
    Calls Tryz.prog 53 #[.string x] w fun e w' => e = .returned (.tuple #[.int .i64 (n : Int), .nilIface]) ∧ Below w.heap.size w w' := by
  refine (Tryz.strconv_Atoi x (n : Int) h4 (by rw [Prs.atoi_digs hd (by simpa using h0), hn]) w).mono ?_
  rintro e w' ⟨rfl, t, rfl⟩
  exact ⟨rfl, below_bytesW w 5 t⟩

def V (p q r : List UInt8) : Prop := Cal.Valid (Prs.dval 0 p : Nat) (Prs.dval 0 q : Nat) (Prs.dval 0 r : Nat)
/-- What Parse comes to. -/
def ParseOf (l : List UInt8) (e : Ending) : Prop :=
  (∃ p q r, Prs.Fields l p q r ∧ V p q r ∧ e = .returned (.tuple #[.int .i64 (Cal.num (Prs.dval 0 p : Nat) (Prs.dval 0 q : Nat) (Prs.dval 0 r : Nat)), .int .i64 0])) ∨
    ((∀ p q r, Prs.Fields l p q r → ¬ V p q r) ∧ e = .returned (.tuple #[.int .i64 0, .int .i64 3]))
theorem parseOf_same {l : List UInt8} {e f : Ending} (h : ParseOf l e) (h' : ParseOf l f) : e = f := by
  rcases h with ⟨p, q, r, h1, h2, rfl⟩ | ⟨h1, rfl⟩ <;> rcases h' with ⟨a, b, c, g1, g2, rfl⟩ | ⟨g1, rfl⟩
  · obtain ⟨rfl, rfl, rfl⟩ := Prs.fields_same h1 g1; rfl
  · exact absurd h2 (g1 _ _ _ h1)
  · exact absurd g2 (h1 _ _ _ g1)
  · rfl
theorem parseOf_no {l : List UInt8} (h : ∀ p q r, ¬ Prs.Fields l p q r) : ParseOf l (.returned (.tuple #[.int .i64 0, .int .i64 3])) := .inr ⟨fun p q r hf => absurd hf (h p q r), rfl⟩

def OK (x : ByteArray) (n : Nat) : Prop := x.size = n ∧ Prs.digs x.data.toList = true
def dv (x : ByteArray) : Nat := Prs.dval 0 x.data.toList
/-- How far the program's loop has come. -/
def StP (P Q R : ByteArray) (k : Int) (a b c : Int) : Prop :=
  (k = 0) ∨ (k = 1 ∧ OK P 4 ∧ a = (dv P : Nat)) ∨ (k = 2 ∧ OK P 4 ∧ OK Q 2 ∧ a = (dv P : Nat) ∧ b = (dv Q : Nat)) ∨ (k = 3 ∧ OK P 4 ∧ OK Q 2 ∧ OK R 2 ∧ a = (dv P : Nat) ∧ b = (dv Q : Nat) ∧ c = (dv R : Nat))
/-- What the loop's world holds. -/
def Hd (B : Nat) (P Q R : ByteArray) (a b c : Int) (w : World) : Prop := w.heap[B]? = some (.cells #[.string P, .string Q, .string R] 9) ∧ w.heap[B + 1]? = some (.cells #[.int .i64 a, .int .i64 b, .int .i64 c] 136) ∧
  w.heap[B + 1 + 1]? = some (.cells #[.int .i64 4, .int .i64 2, .int .i64 2] 3)
theorem heap_lt {w : World} {g : Nat} {o : Obj} (h : w.heap[g]? = some o) : g < w.heap.size := by
  rcases Nat.lt_or_ge g w.heap.size with hl | hl
  · exact hl
  · rw [Array.getElem?_eq_none hl] at h; cases h
theorem Hd.below {B : Nat} {P Q R : ByteArray} {a b c : Int} {w w' : World} (h : Hd B P Q R a b c w) (hb : Below w.heap.size w w') : Hd B P Q R a b c w' :=
  ⟨(hb.block _ (heap_lt h.1)).trans h.1, (hb.block _ (heap_lt h.2.1)).trans h.2.1, (hb.block _ (heap_lt h.2.2)).trans h.2.2⟩
theorem Hd.start (w : World) (P Q R : ByteArray) : Hd w.heap.size P Q R 0 0 0 (((w.alloc (.cells #[.string P, .string Q, .string R] 9)).alloc (.cells #[.int .i64 0, .int .i64 0, .int .i64 0] 136)).alloc (.cells #[.int .i64 4, .int .i64 2, .int .i64 2] 3)) := by
  refine ⟨?_, ?_, ?_⟩
  · rw [Below.heap_alloc _ _ _ (by simp <;> omega), Below.heap_alloc _ _ _ (by simp)]
    exact heap_alloc_new w _
  · rw [Below.heap_alloc _ _ _ (by simp)]
    have := heap_alloc_new (w.alloc (.cells #[.string P, .string Q, .string R] 9)) (.cells #[.int .i64 0, .int .i64 0, .int .i64 0] 136)
    simpa using this
  · have := heap_alloc_new ((w.alloc (.cells #[.string P, .string Q, .string R] 9)).alloc (.cells #[.int .i64 0, .int .i64 0, .int .i64 0] 136)) (.cells #[.int .i64 4, .int .i64 2, .int .i64 2] 3)
    simpa using this
theorem Hd.set {B : Nat} {P Q R : ByteArray} {a b c a' b' c' v : Int} {w : World} (h : Hd B P Q R a b c w) (j : Nat) (hj : #[Value.int .i64 a, .int .i64 b, .int .i64 c].setIfInBounds j (.int .i64 v) = #[.int .i64 a', .int .i64 b', .int .i64 c']) :
    Hd B P Q R a' b' c' (w.setCell ⟨B + 1, j, none⟩ (.int .i64 v)) := by
  refine ⟨(Below.heap_setCell w _ _ _ (by simp)).trans h.1, ?_, (Below.heap_setCell w _ _ _ (by simp)).trans h.2.2⟩
  rw [← hj]
  exact heap_setCell_same w _ _ _ _ _ h.2.1
theorem fields_three {l : List UInt8} {P Q R : ByteArray} (hs : Lib.splitK [45] 0 2 l = [P.data.toList, Q.data.toList, R.data.toList]) (h : ¬ (OK P 4 ∧ OK Q 2 ∧ OK R 2)) : ∀ a b c, ¬ Prs.Fields l a b c := by
  intro a b c hf
  have := (Prs.fields_count hf).2.1
  rw [hs] at this
  injection this with e1 this
  injection this with e2 this
  injection this with e3 _
  obtain ⟨_, h1, h2, h3, d1, d2, d3⟩ := hf
  subst e1 e2 e3
  exact h ⟨⟨by simpa using h1, d1⟩, ⟨by simpa using h2, d2⟩, ⟨by simpa using h3, d3⟩⟩

set_option maxHeartbeats 4000000 in
set_option maxRecDepth 100000 in
theorem parse_any (s : ByteArray) (w : World) (hs : s.size < 4294967281) (hm : HasMax w) :
    Calls Tryz.prog 54 #[.string s] w fun e w' => ParseOf s.data.toList e ∧ Below w.heap.size w w' := by
  obtain ⟨C, hC⟩ : ∃ C, C = Lib.countB s ⟨#[45]⟩ := ⟨_, rfl⟩
  obtain ⟨L, hL⟩ : ∃ L, L = Lib.splitB ⟨#[45]⟩ 0 (Lib.countB s ⟨#[45]⟩) s := ⟨_, rfl⟩
  have HS := split_any s w hs hm L hL C hC
  by_cases h2 : C = 2
  · subst h2
    obtain ⟨p, q, r, e1, n1, n2, n3, e2⟩ := Prs.three (l := s.data.toList) hC.symm
    have e3 : ∃ P Q R, L = [P, Q, R] ∧ P.data.toList = p ∧ Q.data.toList = q ∧ R.data.toList = r := by
      have h3 : L.map (·.data.toList) = [p, q, r] := by
        rw [hL, ← hC, Lib.splitB_data]; exact e2
      match L, h3 with
      | [P, Q, R], h3 =>
        simp at h3
        exact ⟨P, Q, R, rfl, h3.1, h3.2.1, h3.2.2⟩
    obtain ⟨P, Q, R, rfl, rfl, rfl, rfl⟩ := e3
    have HL := Lib.hid e1; clear e1
    have HK := Lib.hid e2; clear e2
    have H := Lib.hid HS; clear HS
    clear hL hC n1 n2 n3
    go_enter Tryz.func54, Tryz.ntmps54
    go_wp2_with fail
    refine H.out.mono ?_
    rintro e w1 ⟨rfl, rfl⟩
    go_wp2_with fail
    go_loopw [6, 7, 17] (fun _ _ i wr => ∃ k a b c : Int, i = .int .i64 k ∧ Hd w.heap.size P Q R a b c wr ∧ Below w.heap.size w wr ∧ Hid (StP P Q R k a b c)) (fun _ _ i _ => (3 - intOf i).toNat)
    case atStart => exact ⟨0, 0, 0, 0, rfl, Hd.start w P Q R, (((Below.refl _ _).alloc (Nat.le_refl _) _).alloc (by simp) _).alloc (by simp; omega) _, Lib.hid (.inl rfl)⟩
    case round =>
      obtain ⟨k, a, b, c, rfl, hh, hb, HST⟩ := hrel
      have HH := Lib.hid hh
      obtain ⟨hq0, hq1, hq2⟩ := hh
      have hz := hb.size
      rcases HST.out with rfl | ⟨rfl, o1, ha⟩ | ⟨rfl, o1, o2, ha, hbv⟩ | ⟨rfl, o1, o2, o3, ha, hbv, hcv⟩
      · skip
        have cP := cell_of_row wr w.heap.size 0 _ _ (0, 0) hq0
        have cW := cell_of_row wr (w.heap.size + 1 + 1) 0 _ _ (0, 0) hq2
        simp at cP cW
        clear hq0 hq1 hq2
        by_cases hsz : P.size = 4
        · cases hd : Prs.digs P.data.toList with
          | false =>
            have HNO := Lib.hid (fields_three HK.out (fun h => by have := h.1.2; rw [hd] at this; cases this))
            have HC := Lib.hid (contains_any P true (by rw [hd]; rfl))
            have hsz1 : ((P.size : Int) == 4) = true := by simp; omega
            have hsz2 : ((P.size : Int) != 4) = false := by simp; omega
            clear hd hsz
            go_wp2_with fail
            refine (HC.out _).mono ?_
            rintro e w2 ⟨rfl, hb2⟩
            go_wp2_with fail
            go_ret2
            exact ⟨parseOf_no HNO.out, hb.trans (hb2.mono hz)⟩
          | true =>
            have HOK : Hid (OK P 4) := Lib.hid ⟨hsz, hd⟩
            have HC := Lib.hid (contains_any P false (by rw [hd]; rfl))
            obtain ⟨n, hn⟩ : ∃ n, n = dv P := ⟨_, rfl⟩
            have HN := Lib.hid hn
            have HA := Lib.hid (atoi_any P n hn hd (by omega) (by omega))
            have hsz1 : ((P.size : Int) == 4) = true := by simp; omega
            have hsz2 : ((P.size : Int) != 4) = false := by simp; omega
            clear hd hsz hn
            go_wp2_with fail
            refine (HC.out _).mono ?_
            rintro e w2 ⟨rfl, hb2⟩
            have hh2 := HH.out.below hb2
            have cP2 := cell_of_row w2 w.heap.size 0 _ _ (0, 0) hh2.1
            simp at cP2
            have hb12 := hb.trans (hb2.mono hz)
            have HH2 := Lib.hid hh2; clear hh2
            go_wp2_with fail
            refine (HA.out _).mono ?_
            rintro e w3 ⟨rfl, hb3⟩
            have hh3 := HH2.out.below hb3
            have cL := cell_of_row w3 (w.heap.size + 1) 0 _ _ (0, 0) hh3.2.1
            have fL := frozen_of_row w3 (w.heap.size + 1) 0 _ _ hh3.2.1
            simp at cL
            have hb13 := hb12.trans (hb3.mono hb12.size)
            have hlt3 := heap_lt hh3.2.1
            have HH3 := Lib.hid hh3; clear hh3
            go_wp2_with fail
            go_roundw
            case rel => exact ⟨1, (n : Int), b, c, by go_num, HH3.out.set 0 rfl, hb13.setCell (by show w.heap.size ≤ w.heap.size + 1; omega) _, Lib.hid (.inr (.inl ⟨rfl, HOK.out, by rw [HN.out]⟩))⟩
            case measure => simp [intOf]
        · have HNO := Lib.hid (fields_three HK.out (fun h => hsz h.1.1))
          have hsz1 : ((P.size : Int) == 4) = false := by simp; omega
          have hsz2 : ((P.size : Int) != 4) = true := by simp; omega
          clear hsz
          go_wp2_with fail
          go_ret2
          exact ⟨parseOf_no HNO.out, hb⟩
      · have HO1 := Lib.hid o1; have HAV := Lib.hid ha; clear o1 ha
        have cP := cell_of_row wr w.heap.size 1 _ _ (0, 0) hq0
        have cW := cell_of_row wr (w.heap.size + 1 + 1) 1 _ _ (0, 0) hq2
        simp at cP cW
        clear hq0 hq1 hq2
        by_cases hsz : Q.size = 2
        · cases hd : Prs.digs Q.data.toList with
          | false =>
            have HNO := Lib.hid (fields_three HK.out (fun h => by have := h.2.1.2; rw [hd] at this; cases this))
            have HC := Lib.hid (contains_any Q true (by rw [hd]; rfl))
            have hsz1 : ((Q.size : Int) == 2) = true := by simp; omega
            have hsz2 : ((Q.size : Int) != 2) = false := by simp; omega
            clear hd hsz
            go_wp2_with fail
            refine (HC.out _).mono ?_
            rintro e w2 ⟨rfl, hb2⟩
            go_wp2_with fail
            go_ret2
            exact ⟨parseOf_no HNO.out, hb.trans (hb2.mono hz)⟩
          | true =>
            have HOK : Hid (OK Q 2) := Lib.hid ⟨hsz, hd⟩
            have HC := Lib.hid (contains_any Q false (by rw [hd]; rfl))
            obtain ⟨n, hn⟩ : ∃ n, n = dv Q := ⟨_, rfl⟩
            have HN := Lib.hid hn
            have HA := Lib.hid (atoi_any Q n hn hd (by omega) (by omega))
            have hsz1 : ((Q.size : Int) == 2) = true := by simp; omega
            have hsz2 : ((Q.size : Int) != 2) = false := by simp; omega
            clear hd hsz hn
            go_wp2_with fail
            refine (HC.out _).mono ?_
            rintro e w2 ⟨rfl, hb2⟩
            have hh2 := HH.out.below hb2
            have cP2 := cell_of_row w2 w.heap.size 1 _ _ (0, 0) hh2.1
            simp at cP2
            have hb12 := hb.trans (hb2.mono hz)
            have HH2 := Lib.hid hh2; clear hh2
            go_wp2_with fail
            refine (HA.out _).mono ?_
            rintro e w3 ⟨rfl, hb3⟩
            have hh3 := HH2.out.below hb3
            have cL := cell_of_row w3 (w.heap.size + 1) 1 _ _ (0, 0) hh3.2.1
            have fL := frozen_of_row w3 (w.heap.size + 1) 1 _ _ hh3.2.1
            simp at cL
            have hb13 := hb12.trans (hb3.mono hb12.size)
            have hlt3 := heap_lt hh3.2.1
            have HH3 := Lib.hid hh3; clear hh3
            go_wp2_with fail
            go_roundw
            case rel => exact ⟨2, a, (n : Int), c, by go_num, HH3.out.set 1 rfl, hb13.setCell (by show w.heap.size ≤ w.heap.size + 1; omega) _, Lib.hid (.inr (.inr (.inl ⟨rfl, HO1.out, HOK.out, HAV.out, by rw [HN.out]⟩)))⟩
            case measure => simp [intOf]
        · have HNO := Lib.hid (fields_three HK.out (fun h => hsz h.2.1.1))
          have hsz1 : ((Q.size : Int) == 2) = false := by simp; omega
          have hsz2 : ((Q.size : Int) != 2) = true := by simp; omega
          clear hsz
          go_wp2_with fail
          go_ret2
          exact ⟨parseOf_no HNO.out, hb⟩
      · have HO1 := Lib.hid o1; have HO2 := Lib.hid o2; have HAV := Lib.hid ha; have HBV := Lib.hid hbv; clear o1 o2 ha hbv
        have cP := cell_of_row wr w.heap.size 2 _ _ (0, 0) hq0
        have cW := cell_of_row wr (w.heap.size + 1 + 1) 2 _ _ (0, 0) hq2
        simp at cP cW
        clear hq0 hq1 hq2
        by_cases hsz : R.size = 2
        · cases hd : Prs.digs R.data.toList with
          | false =>
            have HNO := Lib.hid (fields_three HK.out (fun h => by have := h.2.2.2; rw [hd] at this; cases this))
            have HC := Lib.hid (contains_any R true (by rw [hd]; rfl))
            have hsz1 : ((R.size : Int) == 2) = true := by simp; omega
            have hsz2 : ((R.size : Int) != 2) = false := by simp; omega
            clear hd hsz
            go_wp2_with fail
            refine (HC.out _).mono ?_
            rintro e w2 ⟨rfl, hb2⟩
            go_wp2_with fail
            go_ret2
            exact ⟨parseOf_no HNO.out, hb.trans (hb2.mono hz)⟩
          | true =>
            have HOK : Hid (OK R 2) := Lib.hid ⟨hsz, hd⟩
            have HC := Lib.hid (contains_any R false (by rw [hd]; rfl))
            obtain ⟨n, hn⟩ : ∃ n, n = dv R := ⟨_, rfl⟩
            have HN := Lib.hid hn
            have HA := Lib.hid (atoi_any R n hn hd (by omega) (by omega))
            have hsz1 : ((R.size : Int) == 2) = true := by simp; omega
            have hsz2 : ((R.size : Int) != 2) = false := by simp; omega
            clear hd hsz hn
            go_wp2_with fail
            refine (HC.out _).mono ?_
            rintro e w2 ⟨rfl, hb2⟩
            have hh2 := HH.out.below hb2
            have cP2 := cell_of_row w2 w.heap.size 2 _ _ (0, 0) hh2.1
            simp at cP2
            have hb12 := hb.trans (hb2.mono hz)
            have HH2 := Lib.hid hh2; clear hh2
            go_wp2_with fail
            refine (HA.out _).mono ?_
            rintro e w3 ⟨rfl, hb3⟩
            have hh3 := HH2.out.below hb3
            have cL := cell_of_row w3 (w.heap.size + 1) 2 _ _ (0, 0) hh3.2.1
            have fL := frozen_of_row w3 (w.heap.size + 1) 2 _ _ hh3.2.1
            simp at cL
            have hb13 := hb12.trans (hb3.mono hb12.size)
            have hlt3 := heap_lt hh3.2.1
            have HH3 := Lib.hid hh3; clear hh3
            go_wp2_with fail
            go_roundw
            case rel => exact ⟨3, a, b, (n : Int), by go_num, HH3.out.set 2 rfl, hb13.setCell (by show w.heap.size ≤ w.heap.size + 1; omega) _, Lib.hid (.inr (.inr (.inr ⟨rfl, HO1.out, HO2.out, HOK.out, HAV.out, HBV.out, by rw [HN.out]⟩)))⟩
            case measure => simp [intOf]
        · have HNO := Lib.hid (fields_three HK.out (fun h => hsz h.2.2.1))
          have hsz1 : ((R.size : Int) == 2) = false := by simp; omega
          have hsz2 : ((R.size : Int) != 2) = true := by simp; omega
          clear hsz
          go_wp2_with fail
          go_ret2
          exact ⟨parseOf_no HNO.out, hb⟩
      · have hF : Prs.Fields s.data.toList P.data.toList Q.data.toList R.data.toList := ⟨HL.out, by simpa using o1.1, by simpa using o2.1, by simpa using o3.1, o1.2, o2.2, o3.2⟩
        have c0 := cell_of_row wr (w.heap.size + 1) 0 _ _ (0, 0) hq1
        have c1 := cell_of_row wr (w.heap.size + 1) 1 _ _ (0, 0) hq1
        have c2 := cell_of_row wr (w.heap.size + 1) 2 _ _ (0, 0) hq1
        simp at c0 c1 c2
        clear hq0 hq1 hq2 o1 o2 o3
        by_cases hv : Cal.Valid a b c
        · have HR : Hid (ParseOf s.data.toList (.returned (.tuple #[.int .i64 (Cal.num a b c), .int .i64 0]))) := Lib.hid (by
            subst ha hbv hcv; exact .inl ⟨_, _, _, hF, hv, rfl⟩)
          have HV := Lib.hid hv
          clear hv hF ha hbv hcv
          go_wp2_with fail
          refine (days_yes _ _ _ HV.out _).mono ?_
          rintro e w' ⟨rfl, rfl⟩
          go_wp2_with fail
          go_ret2
          exact ⟨HR.out, hb⟩
        · have HR : Hid (ParseOf s.data.toList (.returned (.tuple #[.int .i64 0, .int .i64 3]))) := Lib.hid (by
            subst ha hbv hcv
            refine .inr ⟨fun p q r hf => ?_, rfl⟩
            obtain ⟨rfl, rfl, rfl⟩ := Prs.fields_same hf hF
            exact hv)
          have HV := Lib.hid hv
          clear hv hF ha hbv hcv
          go_wp2_with fail
          refine (days_no _ _ _ HV.out _).mono ?_
          rintro e w' ⟨rfl, rfl⟩
          go_wp2_with fail
          go_ret2
          exact ⟨HR.out, hb⟩
  · have hno : ∀ p q r, ¬ Prs.Fields s.data.toList p q r := fun p q r hf => h2 (by rw [hC]; exact (Prs.fields_count hf).1)
    have H := Lib.hid HS; clear HS
    have HN := Lib.hid hno; clear hno hL hC
    have hc3 : ((C : Int) + 1 == 3) = false := by simp; omega
    clear h2
    go_enter Tryz.func54, Tryz.ntmps54
    go_wp2_with fail
    refine H.out.mono ?_
    rintro e w1 ⟨rfl, rfl⟩
    go_wp2_with fail
    go_ret2
    exact ⟨parseOf_no HN.out, (Below.refl _ _).alloc (Nat.le_refl _) _⟩
end Go.Proofs.YtlmejpkngnilcaaGreatDoor
