/- Parts of the proof, one behind the other: The contract of statement.Money: an amount as a text. -/
import Derived.Test.YtlmejpkngnilcaaGreatDoorMrg05
import Derived.Test.YtlmejpkngnilcaaGreatDoorMrg10
import Derived.Lib.ConvBytes
import Derived.Deep.RegionHeldLaw
namespace Go.Proofs.YtlmejpkngnilcaaGreatDoor
open Go.RowKit

def grpT : List UInt8 → List UInt8
  | [] => []
  | c :: l => (if (l.length + 1) % 3 = 0 then [44, c] else [c]) ++ grpT l
def grp : List UInt8 → List UInt8
  | [] => []
  | c :: l => c :: grpT l
theorem grpT_cons (c : UInt8) (l : List UInt8) : grpT (c :: l) = (if (l.length + 1) % 3 = 0 then [44, c] else [c]) ++ grpT l := rfl
/-- The sign, the whole part, the two digits behind the point. -/
def moneyOf (sg : List UInt8) (u : Nat) : List UInt8 := sg ++ (grp (Lib.decDigits (u / 100)) ++ [46, UInt8.ofNat (48 + u % 100 / 10), UInt8.ofNat (48 + u % 10)])
def moneyL (a : Int) : List UInt8 := moneyOf (if a < 0 then [45] else []) a.natAbs
theorem digits_le (n : Nat) (h : n < 18446744073709551616) : (Lib.decDigits n).length ≤ 20 := by
  rcases Nat.eq_zero_or_pos n with h0 | h0
  · subst h0; unfold Lib.decDigits; simp
  · rw [Lib.decDigits_length]
    have := Lib.numDigits_eq n h0 h
    split at this <;> omega
/-- Where the loop of Money stands: block b is the builder's, g that of the digits. -/
structure Mst (w : World) (b g : Nat) (D sg P : List UInt8) (A : Option Addr) (c : Nat) (wr : World) : Prop where
  bld : Bld wr b b A c (sg ++ P)
  row : ∀ j (h : j < D.length), wr.cell? ⟨g, j, none⟩ = some (.int .u8 (D[j].toNat : Int))
  ne : blk A ≠ some g
  lt : g < wr.heap.size
  bg : b < g
  wb : w.heap.size ≤ b
  below : Below w.heap.size w wr
theorem Mst.step {w : World} {b g : Nat} {D sg P : List UInt8} {A A' : Option Addr} {c c' : Nat} {wr w' : World} {y : UInt8} (h : Mst w b g D sg P A c wr) (hb : Bld w' b b A' c' (sg ++ P ++ [y])) (hk : KeptBut wr w' b (blk A)) (hat : blk A' = blk A ∨ ∃ q, blk A' = some q ∧ wr.heap.size ≤ q) : Mst w b g D sg (P ++ [y]) A' c' w' := by
  have hlt := h.lt; have hbg := h.bg; have hwb := h.wb
  refine ⟨by rw [← List.append_assoc]; exact hb, fun j hj => ?_, ?_, Nat.lt_of_lt_of_le h.lt hk.size, h.bg, h.wb, ?_⟩
  · rw [hk.cell (by exact h.lt) (by show g ≠ b; omega) (fun e => h.ne e.symm)]
    exact h.row j hj
  · rcases hat with e | ⟨q, e, hq⟩
    · rw [e]; exact h.ne
    · rw [e]; intro e2; injection e2 with e2; omega
  · have hb2 := hk.below (B := w.heap.size) h.wb (fun q hq => by have := (h.bld.own.blk_ge q hq).1; omega) h.below.size
    exact h.below.trans hb2
theorem byteN (n : Nat) (h : n < 256) (x : Int) (e : x = (n : Int)) : ((UInt8.ofNat n).toNat : Int) = x := by
  rw [e, UInt8.toNat_ofNat', Nat.mod_eq_of_lt h]
/-- What is still to be written, at place k. -/
def rst (D : List UInt8) (k : Nat) : List UInt8 := if k = 0 then grp D else grpT (D.drop k)
theorem rst_zero {D : List UInt8} (h : 0 < D.length) : rst D 0 = D[0] :: rst D 1 := by
  unfold rst
  rw [if_pos rfl, if_neg (by omega)]
  cases D with
  | nil => simp at h
  | cons c l => rfl
theorem rst_comma {D : List UInt8} {k : Nat} (h : k < D.length) (hk : 0 < k) (h3 : (D.length - k) % 3 = 0) : rst D k = 44 :: D[k] :: rst D (k + 1) := by
  unfold rst
  rw [if_neg (by omega), if_neg (by omega), List.drop_eq_getElem_cons h]
  rw [grpT_cons, if_pos (by rw [List.length_drop]; omega)]
  rfl
theorem rst_plain {D : List UInt8} {k : Nat} (h : k < D.length) (hk : 0 < k) (h3 : ¬ (D.length - k) % 3 = 0) : rst D k = D[k] :: rst D (k + 1) := by
  unfold rst
  rw [if_neg (by omega), if_neg (by omega), List.drop_eq_getElem_cons h]
  rw [grpT_cons, if_neg (by rw [List.length_drop]; omega)]
  rfl
theorem nd_pos (n : Nat) : 0 < Lib.nDigits n := by
  unfold Lib.nDigits; split <;> omega
set_option maxHeartbeats 1000000 in
set_option maxRecDepth 100000 in
theorem money_any (a : Int) (h0 : -9223372036854775808 ≤ a) (h1 : a ≤ 9223372036854775807) (w : World) (ht : Tab w) :
    Calls Tryz.prog 12 #[.int .i64 a] w fun e w' => e = .returned (.string ⟨(moneyL a).toArray⟩) ∧ Below w.heap.size w w' := by
  obtain ⟨u, sg, hu1, hm, hcase⟩ : ∃ (u : Nat) (sg : List UInt8), (u : Int) ≤ 9223372036854775808 ∧ Hid (moneyL a = moneyOf sg u) ∧ ((a = (u : Int) ∧ Hid (sg = [])) ∨ (a = -(u : Int) ∧ 0 < u ∧ IntKind.u64.wrap (-IntKind.u64.wrap (-(u : Int))) = (u : Int) ∧ Hid (sg = [45]))) := by
    refine ⟨a.natAbs, if a < 0 then [45] else [], by omega, Lib.hid rfl, ?_⟩
    by_cases hn : a < 0
    · exact .inr ⟨by omega, by omega, by rw [IntKind.wrap_u64, IntKind.wrap_u64]; omega, Lib.hid (if_pos hn)⟩
    · exact .inl ⟨by omega, Lib.hid (if_neg hn)⟩
  have hu0 : (0 : Int) ≤ (u : Int) := by omega
  have hD := digits_le (u / 100) (by omega)
  have K := Lib.hid (fmtu_any (u / 100) (by omega) w ht)
  rw [show ((u / 100 : Nat) : Int) = (u : Int) / 100 by omega] at K
  have HM := hm; clear hm
  unfold moneyOf at HM
  obtain ⟨D, hDe⟩ : ∃ D, D = Lib.decDigits (u / 100) := ⟨_, rfl⟩
  rw [← hDe] at K HM hD
  have HDE := Lib.hid hDe; clear hDe
  rcases hcase with ⟨rfl, HSG⟩ | ⟨rfl, hup, hwr, HSG⟩
  all_goals
    go_enter Tryz.func12, Tryz.ntmps12
    go_wp2_with fail
    refine K.out.mono ?_
    rintro e w1 ⟨rfl, hb1⟩
    have hz1 := hb1.size
    have HB1 := Lib.hid hb1; clear hb1
    have BN := Lib.hid (Bld.new w1 w1.heap.size (Nat.le_refl _))
    go_wp2_with fail
    refine (wstr_any _ _ _ _ _ _ _ rfl (by decide) (by decide) _ BN.out).mono ?_
    rintro e w2 ⟨rfl, A1, c1, HX⟩
    have hz2 := HX.2.size
    have hb2 := HX.1.lt
    have HX := Lib.hid HX
    go_wp2_with fail
    rw [Lib.run_convert_string_bytes w2 9 39 5 ⟨D.toArray⟩ Tryz.underlying9 Tryz.underlying39 Tryz.underlying5]
    simp only [Result.andThen]
    rw [Oper.upon_value]
    obtain ⟨w3, hw3, hz3, ho3, hc3⟩ : ∃ w3, Lib.bytesWorld w2 5 ⟨D.toArray⟩ = w3 ∧ w3.heap.size = w2.heap.size + 1 ∧ Hid (Below w2.heap.size w2 w3) ∧ Hid (∀ j (h : j < D.length), w3.cell? ⟨w2.heap.size, j, none⟩ = some (.int .u8 (D[j].toNat : Int))) := by
      refine ⟨_, rfl, Lib.bytesWorld_size _ _ _, Lib.hid ⟨rfl, rfl, rfl, by rw [Lib.bytesWorld_size]; omega, fun k hk => Lib.bytesWorld_at_old _ _ _ k hk⟩, Lib.hid fun j hj => ?_⟩
      rw [Lib.bytesWorld_cell _ _ _ j (by show j < D.toArray.size; simpa using hj)]
      simp [List.getD, hj]
    rw [hw3]
    obtain ⟨c3, hc3'⟩ : ∃ c3, c3 = grownCap w2 (ByteArray.mk D.toArray).size 0 5 := ⟨_, rfl⟩
    rw [← hc3', show (ByteArray.mk D.toArray).size = D.length by simp [ByteArray.size]]
    clear hc3' hw3
    have M0 : Hid (Mst w w1.heap.size w2.heap.size D sg [] A1 c1 w3) := Lib.hid (by
      have hlt := HX.out.1.lt
      refine ⟨?_, hc3.out, ?_, by omega, hlt, hz1, ?_⟩
      · have hb : Bld w2 w1.heap.size w1.heap.size A1 c1 (sg ++ []) := by rw [HSG.out]; exact HX.out.1
        refine hb.kept (ho3.out.block _ hlt) fun q hq => ho3.out.block q (hb.own.blk_ge q hq).2
      · intro e
        have := (HX.out.1.own.blk_ge _ e).2
        omega
      · have hk := HX.out.2
        have k2 : Below w.heap.size w1 w2 := ((Below.refl w.heap.size w1).alloc hz1 _).trans (hk.below hz1 (fun q hq => by cases hq) (by simp; omega))
        exact (HB1.out.trans k2).trans (ho3.out.mono (by have := k2.size; omega)))
    have hsl : sg.length ≤ 1 := by rw [HSG.out]; simp
    have hg0 : 0 < D.length := by
      rcases Nat.eq_zero_or_pos D.length with h | h
      · rw [HDE.out, Lib.decDigits_length] at h
        exact absurd h (by have := nd_pos (u / 100); omega)
      · exact h
    clear HX hc3 ho3 HB1 BN K
    obtain ⟨b, hbE⟩ : ∃ b, b = w1.heap.size := ⟨_, rfl⟩
    obtain ⟨g, hgE⟩ : ∃ g, g = w2.heap.size := ⟨_, rfl⟩
    rw [← hbE, ← hgE] at M0 ⊢
    clear hz3 hz2 hz1 hb2
    clear hbE hgE
    go_wp2_with fail
    go_loopw [23] (fun i wr => ∃ (k : Nat) (P : List UInt8) (A : Option Addr) (c : Nat), k ≤ D.length ∧ P.length ≤ 2 * k ∧ i = .int .i64 (k : Int) ∧ Hid (Mst w b g D sg P A c wr) ∧ Hid (P ++ rst D k = grp D)) (fun i _ => D.length - (intOf i).toNat)
    case atStart => exact ⟨0, [], A1, c1, by omega, by simp, rfl, M0, Lib.hid rfl⟩
    case round =>
      obtain ⟨k, P, A, c, hk, hp, rfl, HM1, HR⟩ := hrel
      by_cases hlt : k < D.length
      · have hc := HM1.out.row k hlt
        obtain ⟨x, hx⟩ : ∃ x, x = D[k] := ⟨_, rfl⟩
        rw [← hx] at hc
        have HXX := Lib.hid hx; clear hx
        obtain ⟨X, hX⟩ : ∃ X : Int, (x.toNat : Int) = X := ⟨_, rfl⟩
        rw [hX] at hc
        have HXI := Lib.hid hX; clear hX
        have hl1 : (sg ++ P).length ≤ 100000 := by rw [List.length_append]; omega
        have hbl : b < wr.heap.size := HM1.out.bld.lt
        by_cases hk0 : k = 0
        · subst hk0
          have HR2 : Hid (P ++ [x] ++ rst D 1 = grp D) := Lib.hid (by rw [← HR.out, rst_zero hlt, HXX.out]; simp)
          have W1 := Lib.hid (wbyte_any b b A c (sg ++ P) X x HXI.out hl1 wr HM1.out.bld)
          go_wp2_with fail
          refine W1.out.mono ?_
          rintro e w4 ⟨rfl, A4, c4, hb4, hk4, hat4⟩
          have HM4 := Lib.hid (HM1.out.step hb4 hk4 hat4)
          clear hb4 hk4 hat4
          go_wp2_with fail
          go_round
          case rel => exact ⟨1, P ++ [x], A4, c4, by omega, by simp; omega, by go_num, HM4, HR2⟩
          case measure => simp [intOf]; omega
        · have hkp : 0 < k := by omega
          by_cases h3 : (D.length - k) % 3 = 0
          · have d3 : ((((D.length : Int) - (k : Int)) % 3) == 0) = true := by rw [beq_iff_eq]; omega
            have HR2 : Hid (P ++ [44] ++ [x] ++ rst D (k + 1) = grp D) := Lib.hid (by rw [← HR.out, rst_comma hlt hkp h3, HXX.out]; simp)
            have W1 := Lib.hid (wbyte_any b b A c (sg ++ P) 44 44 rfl hl1 wr HM1.out.bld)
            go_wp2_with fail
            refine W1.out.mono ?_
            rintro e w4 ⟨rfl, A4, c4, hb4, hk4, hat4⟩
            have HM4 := Lib.hid (HM1.out.step hb4 hk4 hat4)
            have W2 := Lib.hid (wbyte_any b b A4 c4 (sg ++ (P ++ [44])) X x HXI.out (by simp only [List.length_append, List.length_cons, List.length_nil]; omega) w4 HM4.out.bld)
            clear hb4 hk4 hat4
            go_wp2_with fail
            refine W2.out.mono ?_
            rintro e w5 ⟨rfl, A5, c5, hb5, hk5, hat5⟩
            have HM5 := Lib.hid (HM4.out.step hb5 hk5 hat5)
            clear hb5 hk5 hat5
            go_wp2_with fail
            go_round
            case rel => exact ⟨k + 1, P ++ [44] ++ [x], A5, c5, by omega, by simp; omega, by go_num, HM5, HR2⟩
            case measure => simp [intOf]; omega
          · have d3 : ((((D.length : Int) - (k : Int)) % 3) == 0) = false := by rw [beq_eq_false_iff_ne]; omega
            have HR2 : Hid (P ++ [x] ++ rst D (k + 1) = grp D) := Lib.hid (by rw [← HR.out, rst_plain hlt hkp h3, HXX.out]; simp)
            have W1 := Lib.hid (wbyte_any b b A c (sg ++ P) X x HXI.out hl1 wr HM1.out.bld)
            go_wp2_with fail
            refine W1.out.mono ?_
            rintro e w4 ⟨rfl, A4, c4, hb4, hk4, hat4⟩
            have HM4 := Lib.hid (HM1.out.step hb4 hk4 hat4)
            clear hb4 hk4 hat4
            go_wp2_with fail
            go_round
            case rel => exact ⟨k + 1, P ++ [x], A4, c4, by omega, by simp; omega, by go_num, HM4, HR2⟩
            case measure => simp [intOf]; omega
      · have HE : Hid (P = grp D) := Lib.hid (by
          have := HR.out
          unfold rst at this
          rw [if_neg (by omega), List.drop_eq_nil_of_le (by omega)] at this
          simpa [grpT] using this)
        have hl1 : (sg ++ P).length ≤ 50000 := by rw [List.length_append]; omega
        have W1 := Lib.hid (wbyte_any b b A c (sg ++ P) 46 46 rfl (by omega) wr HM1.out.bld)
        go_wp2_with fail
        refine W1.out.mono ?_
        rintro e w4 ⟨rfl, A4, c4, hb4, hk4, hat4⟩
        have HM4 := Lib.hid (HM1.out.step hb4 hk4 hat4)
        clear hb4 hk4 hat4
        go_wp2_with fail
        refine (wbyte_any b b A4 c4 (sg ++ (P ++ [46])) _ (UInt8.ofNat (48 + u % 100 / 10)) (byteN _ (by omega) _ (by omega)) (by simp at hl1 ⊢; omega) w4 HM4.out.bld).mono ?_
        rintro e w5 ⟨rfl, A5, c5, hb5, hk5, hat5⟩
        have HM5 := Lib.hid (HM4.out.step hb5 hk5 hat5)
        clear hb5 hk5 hat5
        go_wp2_with fail
        refine (wbyte_any b b A5 c5 (sg ++ (P ++ [46] ++ [UInt8.ofNat (48 + u % 100 / 10)])) _ (UInt8.ofNat (48 + u % 10)) (byteN _ (by omega) _ (by omega)) (by simp at hl1 ⊢; omega) w5 HM5.out.bld).mono ?_
        rintro e w6 ⟨rfl, A6, c6, hb6, hk6, hat6⟩
        have HM6 := Lib.hid (HM5.out.step hb6 hk6 hat6)
        clear hb6 hk6 hat6
        have hb6 : b ≤ w6.heap.size := Nat.le_of_lt HM6.out.bld.lt
        go_wp2_with fail
        refine (Tryz.Builder_String_any b b (sg ++ (P ++ [46] ++ [UInt8.ofNat (48 + u % 100 / 10)] ++ [UInt8.ofNat (48 + u % 10)])) w6 HM6.out.bld.is hb6).mono ?_
        rintro e w7 ⟨rfl, hb7⟩
        have HB7 := Lib.hid hb7; clear hb7
        go_wp2_with fail
        go_ret
        refine ⟨ret_str ?_, HM6.out.below.trans (HB7.out.mono HM6.out.wb)⟩
        rw [HM.out, HE.out]
        simp [UInt8.ofNat_add]
end Go.Proofs.YtlmejpkngnilcaaGreatDoor
