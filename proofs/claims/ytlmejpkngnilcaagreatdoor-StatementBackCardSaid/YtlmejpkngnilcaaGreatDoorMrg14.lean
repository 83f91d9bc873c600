/- Parts of the proof, one behind the other: The contract of byteStringReplacer's Replace, where commas and points are left out.; A new replacer's cells, stored whole.; Contracts: strings.NewReplacer, its build, where commas and points are left out. -/
import Derived.Test.YtlmejpkngnilcaaGreatDoorMrg12
import Derived.Test.YtlmejpkngnilcaaGreatDoorMrg10
import Derived.Test.YtlmejpkngnilcaaGreatDoorMrg01
import Derived.Test.YtlmejpkngnilcaaGreatDoorMrg13
import Derived.Laws.Cover3
import Derived.Laws.IdiomCopy
import Derived.Deep.DeepCutAuto
import Derived.BigRegion
import Derived.Deep.WholeRow
import Derived.Test.YtlmejpkngnilcaaGreatDoorMrg02
import Derived.Lib.ConvBytes
import Derived.Lib.SlBytesConst
namespace Go.Proofs.YtlmejpkngnilcaaGreatDoor
open Go.RowKit

theorem bareL_cons (c : UInt8) (l : List UInt8) : bareL (c :: l) = (if c = 44 ∨ c = 46 then [] else [c]) ++ bareL l := by
  unfold bareL
  rw [List.filter_cons]
  by_cases h : c = 44 ∨ c = 46
  · rw [if_pos h, if_neg (by rcases h with rfl | rfl <;> decide)]; rfl
  · rw [if_neg h, if_pos (by rw [Bool.and_eq_true, bne_iff_ne, bne_iff_ne]; exact ⟨fun e => h (.inl e), fun e => h (.inr e)⟩)]; rfl
theorem bareL_count : ∀ l : List UInt8, (bareL l).length + l.count 46 + l.count 44 = l.length
  | [] => rfl
  | c :: l => by
    have ih := bareL_count l
    rw [bareL_cons, List.length_append, List.count_cons, List.count_cons, List.length_cons]
    by_cases h1 : c = 44
    · subst h1
      rw [if_pos (.inl rfl), if_neg (show ¬ ((44 : UInt8) == 46) = true by decide), if_pos (show ((44 : UInt8) == 44) = true by decide)]
      simp only [List.length_nil]; omega
    · by_cases h2 : c = 46
      · subst h2
        rw [if_pos (.inr rfl), if_pos (show ((46 : UInt8) == 46) = true by decide), if_neg (show ¬ ((46 : UInt8) == 44) = true by decide)]
        simp only [List.length_nil]; omega
      · rw [if_neg (fun h => h.elim h1 h2), if_neg (by simpa using h2), if_neg (by simpa using h1)]
        simp only [List.length_cons, List.length_nil]; omega
theorem bareL_self {l : List UInt8} (h : (bareL l).length = l.length) : bareL l = l := by
  unfold bareL at h ⊢
  exact List.filter_eq_self.2 (fun a ha => by
    have h1 := List.length_filter_eq_length_iff.1 h
    exact h1 a ha)
theorem bareL_take {l : List UInt8} {k : Nat} (hk : k < l.length) : bareL (l.take (k + 1)) = bareL (l.take k) ++ (if l[k] = 44 ∨ l[k] = 46 then [] else [l[k]]) := by
  rw [List.take_succ_eq_append_getElem hk, bareL_append]
  congr 1
  rw [bareL_cons]; simp [bareL]
theorem bareL_take_le (l : List UInt8) (k : Nat) : (bareL (l.take k)).length ≤ (bareL l).length := by
  conv => rhs; rw [← List.take_append_drop k l, bareL_append, List.length_append]
  omega
theorem bareL_le (l : List UInt8) : (bareL l).length ≤ l.length := List.length_filter_le ..
theorem idx_strR (s : ByteArray) (k x : Nat) (hk : k < s.size) (hx : x = s[k].toNat) (w : World) : (Instr.index 9 (.string s) (.int .i64 (k : Int))).run Tryz.prog w = .ok (.int .u8 (x : Int)) w := by
  rw [run_index_string (h := Tryz.underlying9)]
  subst hx
  simp [hk]
/-- A replacer that leaves out commas and points. -/
structure RepAt (w : World) (r : Nat) : Prop where
  rep : ∀ b : Nat, b < 256 → (b = 44 ∨ b = 46 → ∃ a c, w.cell? ⟨r, b, none⟩ = some (.slice (some a) 0 c)) ∧ (¬ (b = 44 ∨ b = 46) → w.cell? ⟨r, b, none⟩ = some (.slice none 0 0))
  two : ∃ t tc, w.cell? ⟨r, 256, none⟩ = some (.slice (some ⟨t, 0, none⟩) 2 tc) ∧ w.cell? ⟨t, 0, none⟩ = some (.string ⟨#[46]⟩) ∧ w.cell? ⟨t, 1, none⟩ = some (.string ⟨#[44]⟩)
theorem BlkB.setR {w : World} {g : Nat} {e : TypeId} {l : List UInt8} (h : BlkB w g e l) (j : Nat) (d : UInt8) (x : Int) (hx : (d.toNat : Int) = x) : BlkB (w.setCell ⟨g, j, none⟩ (.int .u8 x)) g e (l.set j d) := by
  unfold BlkB at h ⊢
  have h1 := heap_setCell_same w g j _ e (.int .u8 x) h
  rw [h1]
  subst hx
  simp [bv, List.map_set]
/-- What the buffer holds, so far. -/
def bufL (L : List UInt8) (N k : Nat) : List UInt8 := bareL (L.take k) ++ List.replicate (N - (bareL (L.take k)).length) 0
theorem bufL_len {L : List UInt8} {N : Nat} (hN : N = (bareL L).length) (k : Nat) : (bufL L N k).length = N := by
  unfold bufL
  have := bareL_take_le L k
  rw [List.length_append, List.length_replicate]; omega
theorem bufL_skip {L : List UInt8} {N k : Nat} (h : bareL (L.take (k + 1)) = bareL (L.take k)) : bufL L N (k + 1) = bufL L N k := by unfold bufL; rw [h]
theorem bufL_put {L : List UInt8} {N k : Nat} {x : UInt8} (h : bareL (L.take (k + 1)) = bareL (L.take k) ++ [x]) (hN : (bareL (L.take (k + 1))).length ≤ N) : bufL L N (k + 1) = (bufL L N k).set (bareL (L.take k)).length x := by
  unfold bufL
  rw [h] at hN ⊢
  rw [List.length_append] at hN ⊢
  simp only [List.length_cons, List.length_nil] at hN ⊢
  rw [List.set_append_right _ _ (Nat.le_refl _), Nat.sub_self]
  obtain ⟨d, hd⟩ : ∃ d, N - (bareL (L.take k)).length = d + 1 := ⟨N - (bareL (L.take k)).length - 1, by omega⟩
  rw [hd, List.replicate_succ, List.set_cons_zero, show N - ((bareL (L.take k)).length + (0 + 1)) = d by omega]
  simp
theorem RepAt.below {w w' : World} {r : Nat} (h : RepAt w r) (hb : Below w.heap.size w w') : RepAt w' r := by
  obtain ⟨t, tc, t0, t1, t2⟩ := h.two
  have hr : r < w.heap.size := World.block_lt_of_cell? w _ t0
  have ht : t < w.heap.size := World.block_lt_of_cell? w _ t1
  refine ⟨fun b hb2 => ?_, t, tc, (hb.cell (by exact hr)).trans t0, (hb.cell (by exact ht)).trans t1, (hb.cell (by exact ht)).trans t2⟩
  obtain ⟨h1, h2⟩ := h.rep b hb2
  refine ⟨fun e => ?_, fun e => (hb.cell (by exact hr)).trans (h2 e)⟩
  obtain ⟨a, c, h3⟩ := h1 e
  exact ⟨a, c, (hb.cell (by exact hr)).trans h3⟩
set_option maxHeartbeats 4000000 in
set_option maxRecDepth 100000 in
theorem brep_any (r : Nat) (s : ByteArray) (L : List UInt8) (hL : L = s.data.toList) (hs : s.size ≤ 1000000) (w : World) (h : RepAt w r) :
    Calls Tryz.prog 202 #[.pointer (some ⟨r, 0, none⟩), .string s] w fun e w' => e = .returned (.string ⟨(bareL L).toArray⟩) ∧ Below w.heap.size w w' := by
  have hn : L.length = s.size := by rw [hL]; simp
  have KC46 := Lib.hid (fun w => Tryz.strings_Count_one s 46 w)
  have KC44 := Lib.hid (fun w => Tryz.strings_Count_one s 44 w)
  obtain ⟨n, hN⟩ : ∃ n, n = s.size := ⟨_, rfl⟩
  have HN := Lib.hid hN
  have HNL : Hid (L.length = n) := Lib.hid (by rw [hn, hN])
  have HL := Lib.hid hL
  have H := Lib.hid h
  obtain ⟨t, tc, t0, t1, t2⟩ := h.two
  clear hL hn h
  go_enter Tryz.func202, Tryz.ntmps202
  have hrepl : ∀ x : UInt8, Hid ((x = 44 ∨ x = 46 → ∃ a c, w.cell? ⟨r, x.toNat, none⟩ = some (.slice (some a) 0 c)) ∧ (¬ (x = 44 ∨ x = 46) → w.cell? ⟨r, x.toNat, none⟩ = some (.slice none 0 0))) := fun x => Lib.hid (by
    have h1 := H.out.rep x.toNat (UInt8.toNat_lt _)
    have h2 : (x.toNat = 44 ∨ x.toNat = 46) ↔ (x = 44 ∨ x = 46) := by
      constructor
      · rintro (h | h)
        · exact .inl (UInt8.toNat_inj.1 h)
        · exact .inr (UInt8.toNat_inj.1 h)
      · rintro (rfl | rfl)
        · exact .inl rfl
        · exact .inr rfl
    rw [h2] at h1
    exact h1)
  have HREP := Lib.hid hrepl
  clear hrepl
  subst hN
  go_upto_if 26 with fail
  go_cut [5, 6] from 26 to 80 (fun a b wx => a = .int .i64 ((bareL L).length : Int) ∧ b = .bool (decide ((bareL L).length ≠ s.size)) ∧ Hid (Below w.heap.size w wx))
  case first =>
    by_cases hbig : (16 : Int) ≤ (s.size : Int)
    · obtain ⟨p6, n6, g6⟩ := (H.out.rep 46 (by decide)).1 (.inr rfl)
      obtain ⟨p4, n4, g4⟩ := (H.out.rep 44 (by decide)).1 (.inl rfl)
      have HCT := Lib.hid (bareL_count L)
      obtain ⟨c6, h6⟩ : ∃ c : Nat, c = Lib.countByte s.data.toList 46 := ⟨_, rfl⟩
      obtain ⟨c4, h4⟩ : ∃ c : Nat, c = Lib.countByte s.data.toList 44 := ⟨_, rfl⟩
      rw [← h6] at KC46
      rw [← h4] at KC44
      have HC : Hid ((bareL L).length + c6 + c4 = s.size ∧ c6 ≤ 1000000 ∧ c4 ≤ 1000000) := Lib.hid (by
        have h1 := HCT.out
        have e6 : c6 = L.count 46 := by rw [h6, HL.out]; rfl
        have e4 : c4 = L.count 44 := by rw [h4, HL.out]; rfl
        have e := HNL.out
        omega)
      clear h6 h4
      go_wp2_with fail
      refine wp_loop_rounds 3 ?_
      rw [rounds_succ]
      go_wp2_with fail
      refine (KC46.out _).mono ?_
      rintro e w1 ⟨rfl, he⟩
      rw [he]
      clear he w1
      have ix6 : ∀ w : World, (Instr.index 9 (.string ⟨#[46]⟩) (.int .i64 0)).run Tryz.prog w = .ok (.int .u8 46) w := fun _ => by kernel_rfl
      have ix4 : ∀ w : World, (Instr.index 9 (.string ⟨#[44]⟩) (.int .i64 0)).run Tryz.prog w = .ok (.int .u8 44) w := fun _ => by kernel_rfl
      have z6 : c6 = 0 ∨ (((c6 : Int) == 0) = false ∧ ((c6 : Int) != 0) = true ∧ 0 < c6) := by
        by_cases h : c6 = 0
        · exact .inl h
        · exact .inr ⟨by rw [beq_eq_false_iff_ne]; omega, by rw [bne_iff_ne]; omega, by omega⟩
      have z4 : c4 = 0 ∨ (((c4 : Int) == 0) = false ∧ ((c4 : Int) != 0) = true ∧ 0 < c4) := by
        by_cases h : c4 = 0
        · exact .inl h
        · exact .inr ⟨by rw [beq_eq_false_iff_ne]; omega, by rw [bne_iff_ne]; omega, by omega⟩
      have Z4 := Lib.hid z4
      clear z4
      rcases z6 with rfl | ⟨d6, d6', p6'⟩
      · go_wp2_with fail
        rw [rounds_succ]
        go_wp2_with fail
        refine (KC44.out _).mono ?_
        rintro e w1 ⟨rfl, he⟩
        rw [he]
        clear he w1
        rcases Z4.out with rfl | ⟨d4, d4', p4'⟩
        · go_wp2_with fail
          rw [rounds_succ]
          go_wp2_with fail
          go_meet
          refine ⟨congrArg (Value.int IntKind.i64) ?_, congrArg Value.bool ?_, Lib.hid ?_⟩
          · have h1 := HC.out
            (try simp only [wrap64]); omega
          · have h1 := HC.out
            rw [eq_comm, decide_eq_false_iff_not]; omega
          · first | exact Below.refl _ _ | exact (Below.refl _ _).drew | exact (Below.refl _ _).drew.drew
        · go_wp2_with fail
          go_region
          go_wp2_with fail
          rw [rounds_succ]
          go_wp2_with fail
          go_meet
          refine ⟨congrArg (Value.int IntKind.i64) ?_, congrArg Value.bool ?_, Lib.hid ?_⟩
          · have h1 := HC.out
            simp only [wrap64]; omega
          · have h1 := HC.out
            rw [eq_comm, decide_eq_true_eq]; omega
          · first | exact Below.refl _ _ | exact (Below.refl _ _).drew | exact (Below.refl _ _).drew.drew
      · go_wp2_with fail
        go_region
        go_wp2_with fail
        rw [rounds_succ]
        go_wp2_with fail
        refine (KC44.out _).mono ?_
        rintro e w1 ⟨rfl, he⟩
        rw [he]
        clear he w1
        rcases Z4.out with rfl | ⟨d4, d4', p4'⟩
        · go_wp2_with fail
          rw [rounds_succ]
          go_wp2_with fail
          go_meet
          refine ⟨congrArg (Value.int IntKind.i64) ?_, congrArg Value.bool ?_, Lib.hid ?_⟩
          · have h1 := HC.out
            simp only [wrap64]; omega
          · have h1 := HC.out
            rw [eq_comm, decide_eq_true_eq]; omega
          · first | exact Below.refl _ _ | exact (Below.refl _ _).drew | exact (Below.refl _ _).drew.drew
        · go_wp2_with fail
          go_region
          go_wp2_with fail
          rw [rounds_succ]
          go_wp2_with fail
          go_meet
          refine ⟨congrArg (Value.int IntKind.i64) ?_, congrArg Value.bool ?_, Lib.hid ?_⟩
          · have h1 := HC.out
            simp only [wrap64]; omega
          · have h1 := HC.out
            rw [eq_comm, decide_eq_true_eq]; omega
          · first | exact Below.refl _ _ | exact (Below.refl _ _).drew | exact (Below.refl _ _).drew.drew
    · go_wp2_with fail
      go_loop [5, 6, 10] (fun a b i => ∃ (k : Nat) (z : Int) (q : Bool), k ≤ s.size ∧ i = .int .i64 (k : Int) ∧ a = .int .i64 z ∧ b = .bool q ∧ Hid (z = ((bareL (L.take k)).length : Int) + (s.size - k : Nat)) ∧ Hid (q = decide ((bareL (L.take k)).length ≠ k))) (fun _ _ i => s.size - (intOf i).toNat)
      case atStart => exact ⟨0, _, _, by omega, rfl, rfl, rfl, Lib.hid (by simp [bareL]), Lib.hid (by simp [bareL])⟩
      case round =>
        obtain ⟨k, z, q, hk, rfl, rfl, rfl, HZ, HQ⟩ := hrel
        by_cases hlt : k < s.size
        · have hkL : k < L.length := by rw [HNL.out]; exact hlt
          have hx : L[k] = s[k] := by have h := HL.out; subst h; rfl
          obtain ⟨x, hxx⟩ : ∃ x, x = L[k] := ⟨_, rfl⟩
          have htk := bareL_take hkL
          rw [← hxx] at htk
          obtain ⟨X, hX⟩ : ∃ X, X = x.toNat := ⟨_, rfl⟩
          have hix := idx_strR s k X hlt (by rw [hX, hxx, hx])
          have h256 : X < 256 := by rw [hX]; exact UInt8.toNat_lt _
          obtain ⟨g1, g2⟩ := (HREP.out x).out
          rw [← hX] at g1 g2
          have HTK := Lib.hid htk
          have HLE := Lib.hid (bareL_le (L.take k))
          have HTL : Hid ((L.take k).length = k) := Lib.hid (by rw [List.length_take]; omega)
          have hlt' : (k : Int) < (s.size : Int) := by omega
          by_cases hq : x = 44 ∨ x = 46
          · obtain ⟨pa, pc, g3⟩ := g1 hq
            have HT1 : Hid ((bareL (L.take (k + 1))).length = (bareL (L.take k)).length) := Lib.hid (by rw [HTK.out, if_pos hq, List.append_nil])
            clear g1 g2 hx hxx htk hX hq
            go_wp2_with fail
            refine ⟨⟨k + 1, _, _, by omega, by go_num, rfl, rfl, Lib.hid ?_, Lib.hid ?_⟩, by simp only [intOf]; omega⟩
            · have h1 := HZ.out; have h2 := HT1.out; have h3 := HLE.out; have h4 := HTL.out
              simp only [wrap64]; omega
            · have h2 := HT1.out; have h3 := HLE.out; have h4 := HTL.out
              rw [eq_comm, decide_eq_true_eq]; omega
          · have g3 := g2 hq
            have HT1 : Hid ((bareL (L.take (k + 1))).length = (bareL (L.take k)).length + 1) := Lib.hid (by rw [HTK.out, if_neg hq, List.length_append]; rfl)
            clear g1 g2 hx hxx htk hX hq
            go_wp2_with fail
            refine ⟨⟨k + 1, _, _, by omega, by go_num, rfl, rfl, Lib.hid ?_, Lib.hid ?_⟩, by simp only [intOf]; omega⟩
            · have h1 := HZ.out; have h2 := HT1.out
              omega
            · rw [HQ.out, HT1.out, decide_eq_decide]; omega
        · have hke : k = s.size := by omega
          subst hke
          have HE : Hid (L.take s.size = L) := Lib.hid (List.take_of_length_le (by rw [HNL.out]; exact Nat.le_refl _))
          go_wp2_with fail
          go_meet
          exact ⟨by rw [HZ.out, HE.out]; simp, by rw [HQ.out, HE.out], Lib.hid (Below.refl _ _)⟩
  case rest =>
    obtain ⟨rfl, rfl, HB⟩ := hcut
    have H1 := Lib.hid (H.out.below HB.out)
    clear t0 t1 t2
    by_cases hsame : (bareL L).length = s.size
    · have e1 : decide ((bareL L).length ≠ s.size) = false := by simp [hsame]
      have HE : Hid (s = ⟨(bareL L).toArray⟩) := Lib.hid (by rw [bareL_self (by rw [hsame, HNL.out]), HL.out])
      rw [e1]
      go_wp2_with fail
      go_ret
      exact ⟨congrArg (fun x => Ending.returned (Value.string x)) HE.out, HB.out⟩
    · have e1 : decide ((bareL L).length ≠ s.size) = true := by simp [hsame]
      rw [e1]
      obtain ⟨N, hN⟩ : ∃ N, N = (bareL L).length := ⟨_, rfl⟩
      have HNN := Lib.hid hN
      rw [← hN]
      have hNle : N ≤ 1000000 := by rw [hN]; have := bareL_le L; have := HNL.out; omega
      clear hN hsame e1
      go_wp2_with (at_make; refine wpList_make_b _ rfl _ _ btB rfl .i64 .i64 _ _ N rfl rfl (by first | rfl | omega) (by first | rfl | omega) (by omega) ?_; intro w1 Z hZ hB1 hb1 hs1)
      obtain ⟨g, hg⟩ : ∃ g, g = wc.heap.size := ⟨_, rfl⟩
      rw [← hg] at hB1 ⊢
      have HG : Hid (w.heap.size ≤ g) := Lib.hid (by rw [hg]; exact HB.out.size)
      have HBL := Lib.hid hB1
      have HBW : Hid (Below w.heap.size w w1) := Lib.hid (HB.out.trans (hb1.mono HB.out.size))
      have HZ := Lib.hid hZ
      clear hB1 hb1 hs1 hZ hg
      go_wp2_with fail
      go_loopw [13, 14] (fun j i wr => ∃ (k m : Nat), k ≤ s.size ∧ i = .int .i64 (k : Int) ∧ j = .int .i64 (m : Int) ∧ Hid (m = (bareL (L.take k)).length) ∧ Hid (BlkB wr g 5 (bufL L N k)) ∧ Hid (Below w.heap.size w wr)) (fun _ i _ => s.size - (intOf i).toNat)
      case atStart => exact ⟨0, 0, by omega, rfl, rfl, Lib.hid rfl, Lib.hid (by have h1 := HBL.out; rw [HZ.out] at h1; exact h1), HBW⟩
      case round =>
        obtain ⟨k, m, hk, rfl, rfl, HM, HBK, HBR⟩ := hrel
        have HR := Lib.hid (H.out.below HBR.out)
        by_cases hlt : k < s.size
        · have hkL : k < L.length := by rw [HNL.out]; exact hlt
          have hx : L[k] = s[k] := by have h := HL.out; subst h; rfl
          obtain ⟨x, hxx⟩ : ∃ x, x = L[k] := ⟨_, rfl⟩
          have htk := bareL_take hkL
          rw [← hxx] at htk
          obtain ⟨X, hX⟩ : ∃ X, X = x.toNat := ⟨_, rfl⟩
          have hix := idx_strR s k X hlt (by rw [hX, hxx, hx])
          have h256 : X < 256 := by rw [hX]; exact UInt8.toNat_lt _
          have hxi : (x = 44 ∨ x = 46) ↔ (X = 44 ∨ X = 46) := by
            rw [hX]
            constructor
            · rintro (rfl | rfl)
              · exact .inl rfl
              · exact .inr rfl
            · rintro (h | h)
              · exact .inl (UInt8.toNat_inj.1 h)
              · exact .inr (UInt8.toNat_inj.1 h)
          obtain ⟨g1, g2⟩ := HR.out.rep X h256
          rw [← hxi] at g1 g2
          have HTK := Lib.hid htk
          have HXT := Lib.hid hX
          have HTL := Lib.hid (bareL_take_le L (k + 1))
          have hlt' : (k : Int) < (s.size : Int) := by omega
          have hmN : m ≤ N := by have := bareL_take_le L k; have := HM.out; have := HNN.out; omega
          by_cases hq : x = 44 ∨ x = 46
          · obtain ⟨pa, pc, g3⟩ := g1 hq
            have HT1 : Hid (bareL (L.take (k + 1)) = bareL (L.take k)) := Lib.hid (by rw [HTK.out, if_pos hq, List.append_nil])
            clear g1 g2 hx hxx htk hX hq hxi
            have hcp : ∀ (d a : Option Addr) (n c q ty : Nat) (w : World), (Builtin.copy_ #[39, 39] ty #[.slice d n c, .slice a 0 q]).run Tryz.prog w = .ok (.int .i64 0) w := fun d a n c q ty w => run_copy_none w _ _ _ 5 d a n c 0 q Tryz.underlying39 (by kernel_rfl) (Nat.zero_min _)
            go_wp2_with fail
            go_region
            go_wp2_with fail
            exact ⟨⟨k + 1, m, by omega, by go_num, rfl, Lib.hid (by rw [HT1.out]; exact HM.out), Lib.hid (by rw [bufL_skip HT1.out]; exact HBK.out), Lib.hid HBR.out.drew⟩, by simp only [intOf]; omega⟩
          · have g3 := g2 hq
            have HT1 : Hid (bareL (L.take (k + 1)) = bareL (L.take k) ++ [x]) := Lib.hid (by rw [HTK.out, if_neg hq])
            have hmN2 : m < N := by have h1 := HTL.out; rw [HT1.out, List.length_append] at h1; simp only [List.length_cons, List.length_nil] at h1; have := HM.out; have := HNN.out; omega
            have hmN3 : (m : Int) < (N : Int) := by omega
            have cm := HBK.out.cell (j := m) (by rw [bufL_len HNN.out]; exact hmN2)
            have fm := HBK.out.free m
            clear g1 g2 hx hxx htk hX hq hxi
            go_wp2_with fail
            refine ⟨⟨k + 1, m + 1, by omega, by go_num, by go_num, Lib.hid (by rw [HT1.out, List.length_append, ← HM.out]; rfl), Lib.hid ?_, Lib.hid (HBR.out.setCell HG.out _)⟩, by simp only [intOf]; omega⟩
            rw [bufL_put HT1.out (by have := bareL_take_le L (k + 1); have := HNN.out; omega), ← HM.out]
            exact HBK.out.setR m x X (by rw [HXT.out])
        · have hke : k = s.size := by omega
          subst hke
          have HE : Hid (bufL L N s.size = bareL L) := Lib.hid (by unfold bufL; rw [List.take_of_length_le (by rw [HNL.out]; exact Nat.le_refl _), ← HNN.out, Nat.sub_self]; simp)
          have hst := run_string_b (P := Tryz.prog) wr btB Tryz.underlying9 wr.heap.size (some ⟨g, 0, none⟩) N N (bareL L) HNN.out (by rw [← HE.out]; exact HBK.out.rd)
          go_wp2_with fail
          go_ret
          exact ⟨rfl, HBR.out⟩
end Go.Proofs.YtlmejpkngnilcaaGreatDoor

namespace Go.Proofs.YtlmejpkngnilcaaGreatDoor
open Go.RowKit

def S1r (s : ByteArray) : List Value := [.string s]
theorem rd_str_new (W : World) (s : ByteArray) (g : Nat) (hg : g = W.heap.size) : RdS S1r 1 (W.alloc (.cells #[.string s] 9)) (g + 1) (some ⟨g, 0, none⟩) [s] := by
  subst hg
  refine RdS.of (f := S1r) (n := 1) (l := [s]) (fun _ => rfl) W.heap.size 0 (by omega) (fun k hk j u hu => ?_)
  obtain rfl : k = 0 := by simp at hk; omega
  have hj : j = 0 := by
    rcases Nat.lt_or_ge j 1 with h | h
    · omega
    · rw [List.getElem?_eq_none (by simp [S1r]; omega)] at hu; cases hu
  subst hj
  rw [cell_of_row _ W.heap.size 0 _ _ (0, 0) (heap_alloc_new W _), ← hu]; rfl
theorem below_bytes (W : World) (e : TypeId) (s : ByteArray) : Below W.heap.size W (Lib.bytesWorld W e s) := ⟨rfl, rfl, rfl, by rw [Lib.bytesWorld_size]; omega, fun k hk => Lib.bytesWorld_at_old W e s k hk⟩
theorem conv_none (W : World) : (convert 9 39 (.string ⟨#[]⟩)).run Tryz.prog W = .ok (.slice (some ⟨W.heap.size, 0, none⟩) 0 (grownCap W 0 0 5)) (Lib.bytesWorld W 5 ⟨#[]⟩) := Lib.run_convert_string_bytes W _ _ _ ⟨#[]⟩ Tryz.underlying9 Tryz.underlying39 Tryz.underlying5
/-- The cells of a replacer that replaces nothing yet. -/
def repC (v : Value) : Array Value := (List.replicate 256 (Value.slice none 0 0) ++ [v]).toArray
theorem zero_rep : Tryz.zeroCells178.toList = List.replicate 257 (Value.slice none 0 0) := by kernel_rfl
theorem set_last {α : Type} (x v : α) (n : Nat) : (List.replicate (n + 1) x).set n v = List.replicate n x ++ [v] := by
  rw [List.replicate_succ', List.set_append_right _ _ (by rw [List.length_replicate]; exact Nat.le_refl _), List.length_replicate, Nat.sub_self]
  rfl
theorem zero_set (v : Value) : Tryz.zeroCells178.toList.set 256 v = (repC v).toList := by
  rw [zero_rep]
  exact set_last _ _ 256
theorem rep_info : (Tryz.prog.info? 178).map (·.size) = some 257 := by kernel_rfl
theorem rep_size : Tryz.zeroCells178.size = 257 := by
  have h := congrArg List.length zero_rep
  rw [List.length_replicate, Array.length_toList] at h
  exact h
theorem repC_size (v : Value) : (repC v).size = 257 := by
  unfold repC
  rw [List.size_toArray, List.length_append, List.length_replicate]; rfl
theorem repC_last (v : Value) : (repC v)[256]? = some v := by
  unfold repC
  rw [List.getElem?_toArray, List.getElem?_append_right (by rw [List.length_replicate]; exact Nat.le_refl _), List.length_replicate]
  rfl
theorem repC_at (v : Value) (j : Nat) (h : j < 256) : (repC v)[j]? = some (.slice none 0 0) := by
  unfold repC
  rw [List.getElem?_toArray, List.getElem?_append_left (by rw [List.length_replicate]; exact h), List.getElem?_replicate, if_pos h]
theorem conv_one (W : World) (n : Nat) (x : UInt8) (hx : (x.toNat : Int) = n) : (convert 39 9 (.slice (some ⟨W.heap.size, 0, none⟩) 1 1)).run Tryz.prog (W.alloc (.cells #[.int .u8 (n : Int)] 5)) = .ok (.string ⟨#[x]⟩) (W.alloc (.cells #[.int .u8 (n : Int)] 5)) := by
  rw [← hx]
  have ho : Own (W.alloc (.cells #[.int .u8 (x.toNat : Int)] 5)) W.heap.size 5 (some ⟨W.heap.size, 0, none⟩) 1 [x] := World.ownsRow_lit (e := 5) (size := 1) W #[.int .u8 (x.toNat : Int)] 1 (Nat.le_refl _) (by unfold maxLen; omega) rfl
  exact run_string_b (P := Tryz.prog) _ btB Tryz.underlying9 _ _ 1 1 [x] rfl ho.rd
theorem store_zero (W : World) (n m : Nat) (a : Option Addr) : (storeCells ⟨W.heap.size, 0, none⟩ (Tryz.zeroCells178.toList.set 256 (.slice a n m))).run Tryz.prog (W.alloc (.cells Tryz.zeroCells178 178)) = .ok () (W.alloc (.cells (repC (.slice a n m)) 178)) := by
  rw [zero_set]
  refine run_storeCells_new (P := Tryz.prog) W 178 _ (repC (.slice a n m)) (by rw [repC_size]; exact rep_info) (by rw [repC_size]; exact rep_size) ?_
  rw [← Array.all_toList]
  unfold repC
  rw [List.all_append, Bool.and_eq_true, List.all_eq_true]
  exact ⟨fun x hx => by rw [List.eq_of_mem_replicate hx]; rfl, rfl⟩
end Go.Proofs.YtlmejpkngnilcaaGreatDoor

namespace Go.Proofs.YtlmejpkngnilcaaGreatDoor
open Go.RowKit

theorem strTr : RT Tryz.prog 42 9 S1r 1 16 (.string ByteArray.empty) :=
  ⟨Tryz.underlying42, by kernel_rfl, fun _ => rfl, fun v u hu => by simp [S1r] at hu; subst hu; rfl, by omega, rfl⟩
/-- Four strings in a row. -/
structure Old4 (w : World) (o : Nat) : Prop where
  c0 : w.cell? ⟨o, 0, none⟩ = some (.string ⟨#[44]⟩)
  c1 : w.cell? ⟨o, 1, none⟩ = some (.string ⟨#[]⟩)
  c2 : w.cell? ⟨o, 2, none⟩ = some (.string ⟨#[46]⟩)
  c3 : w.cell? ⟨o, 3, none⟩ = some (.string ⟨#[]⟩)
theorem Old4.below {w w' : World} {o D : Nat} (h : Old4 w o) (hb : Below D w w') (ho : o < D) : Old4 w' o :=
  ⟨(hb.cell (by exact ho)).trans h.c0, (hb.cell (by exact ho)).trans h.c1, (hb.cell (by exact ho)).trans h.c2, (hb.cell (by exact ho)).trans h.c3⟩
/-- The replacer while it is built: which bytes are put in already. -/
structure BdI (w : World) (o b : Nat) (A : Option Addr) (c : Nat) (L : List ByteArray) (done : Nat → Prop) (W : World) : Prop where
  big : ∃ C : Array Value, W.heap[b]? = some (.cells C 178) ∧ C.size = 257 ∧ C[256]? = some (.slice A L.length c) ∧ ∀ j : Nat, j < 256 → (done j → ∃ a q, C[j]? = some (.slice (some a) 0 q)) ∧ (¬ done j → C[j]? = some (.slice none 0 0))
  row : OwnS S1r 1 W w.heap.size 9 A c L
  old : Old4 W o
  bel : Below w.heap.size w W
  bge : w.heap.size ≤ b
section
variable {w W W' : World} {o b c : Nat} {A : Option Addr} {L : List ByteArray} {done : Nat → Prop}
theorem BdI.cells (h : BdI w o b A c L done W) : W.cell? ⟨b, 256, none⟩ = some (.slice A L.length c) ∧ W.frozen? ⟨b, 256, none⟩ = false ∧ ∀ j : Nat, j < 256 → W.frozen? ⟨b, j, none⟩ = false ∧ (¬ done j → W.cell? ⟨b, j, none⟩ = some (.slice none 0 0)) := by
  obtain ⟨C, h1, h2, h3, h4⟩ := h.big
  refine ⟨by rw [cell_of_row W b _ _ _ (0, 0) h1]; exact h3, frozen_of_row W b _ _ _ h1, fun j hj => ⟨frozen_of_row W b _ _ _ h1, fun hd => by rw [cell_of_row W b _ _ _ (0, 0) h1]; exact (h4 j hj).2 hd⟩⟩
theorem BdI.below (h : BdI w o b A c L done W) (hb : Below W.heap.size W W') (ho : o < w.heap.size) : BdI w o b A c L done W' := by
  obtain ⟨C, h1, h2⟩ := h.big
  exact ⟨⟨C, (hb.block b (Array.getElem?_eq_some_iff.1 h1).1).trans h1, h2⟩, h.row.below hb, h.old.below hb (Nat.lt_of_lt_of_le ho h.bel.size), h.bel.trans (hb.mono h.bel.size), h.bge⟩
theorem rowTag {α : Type} {f : α → List Value} {n : Nat} {base : Nat} {e : TypeId} {l : List α} (h : OwnS f n w base e A c l) {k : Nat} (hk : blk A = some k) : ∃ cs fr, w.heap[k]? = some (.cells cs e fr) := by
  rcases h.2 with ⟨hv, _⟩ | ⟨g, cap, cur, hv, _, hh, _⟩
  · injection hv with hv; subst hv; cases hk
  · injection hv with hv
    subst hv
    obtain rfl : g = k := Option.some.inj hk
    exact ⟨_, _, hh⟩
theorem Old4.keep (h : Old4 W o) (hk : W'.heap[o]? = W.heap[o]?) : Old4 W' o :=
  ⟨(World.cell?_of_block hk).trans h.c0, (World.cell?_of_block hk).trans h.c1, (World.cell?_of_block hk).trans h.c2, (World.cell?_of_block hk).trans h.c3⟩
theorem BdI.row_ne (h : BdI w o b A c L done W) {k : Nat} (hk : blk A = some k) : k ≠ b := fun e => by
  obtain ⟨C, h1, _⟩ := h.big
  obtain ⟨cs, fr, h5⟩ := rowTag h.row hk
  rw [e, h1] at h5
  injection h5 with h5
  injection h5 with _ h6 _
  exact absurd h6 (by decide)
/-- One string more: the row grows, then the replacer's own cell is turned. -/
theorem BdI.more (h : BdI w o b A c L done W) {A' : Option Addr} {c' : Nat} {s : ByteArray} (ho : OwnS S1r 1 W' w.heap.size 9 A' c' (L ++ [s])) (hg : W.grownBy W' (blk A)) (hol : o < w.heap.size) :
    (W'.cell? ⟨b, 256, none⟩ = some (.slice A L.length c) ∧ W'.frozen? ⟨b, 256, none⟩ = false) ∧ BdI w o b A' c' (L ++ [s]) done (W'.setCell ⟨b, 256, none⟩ (.slice A' (L ++ [s]).length c')) := by
  obtain ⟨C, h1, h2, h3, h4⟩ := h.big
  have hbl : b < W.heap.size := (Array.getElem?_eq_some_iff.1 h1).1
  have hne : some b ≠ blk A := fun e => h.row_ne e.symm rfl
  have hx := (hg.block b hbl hne).trans h1
  have hsame := heap_setCell_same W' b 256 C 178 (.slice A' (L ++ [s]).length c') hx
  refine ⟨⟨by rw [cell_of_row W' b _ _ _ (0, 0) hx]; exact h3, frozen_of_row W' b _ _ _ hx⟩, ⟨_, hsame, by rw [Array.size_setIfInBounds]; exact h2, ?_, fun j hj => ?_⟩, ho.keep (fun k e => heap_setCell_other _ ⟨b, 256, none⟩ k _ (fun e2 => ?_)), (h.old.keep ?_).keep (heap_setCell_other _ ⟨b, 256, none⟩ o _ (fun e2 => by have := h.bge; have e3 : o = b := e2; omega)), (below_grow h.bel hg (fun q hq => (h.row.blk_ge q hq).1) h.bel.size).setCell h.bge _, h.bge⟩
  · rw [Array.getElem?_setIfInBounds_self, if_pos (by rw [h2]; decide)]
  · rw [Array.getElem?_setIfInBounds_ne (by omega)]
    exact h4 j hj
  · obtain ⟨cs, fr, h5⟩ := rowTag ho e
    rw [show k = b from e2, hx] at h5
    injection h5 with h5
    injection h5 with _ h6 _
    exact absurd h6 (by decide)
  · refine hg.block o (Nat.lt_of_lt_of_le hol h.bel.size) (fun e => ?_)
    have := (h.row.blk_ge o e.symm).1
    omega
/-- One byte more that is replaced. -/
theorem BdI.put (h : BdI w o b A c L done W) {x : Nat} (hx : x < 256) {p : Addr} {q : Nat} (hol : o < w.heap.size) : BdI w o b A c L (fun j => done j ∨ j = x) (W.setCell ⟨b, x, none⟩ (.slice (some p) 0 q)) := by
  obtain ⟨C, h1, h2, h3, h4⟩ := h.big
  have hsame := heap_setCell_same W b x C 178 (.slice (some p) 0 q) h1
  refine ⟨⟨_, hsame, by rw [Array.size_setIfInBounds]; exact h2, ?_, fun j hj => ?_⟩, h.row.keep (fun k e => heap_setCell_other _ ⟨b, x, none⟩ k _ (h.row_ne e)), h.old.keep (heap_setCell_other _ ⟨b, x, none⟩ o _ (fun e2 => by have := h.bge; have e3 : o = b := e2; omega)), h.bel.setCell h.bge _, h.bge⟩
  · rw [Array.getElem?_setIfInBounds_ne (by omega)]; exact h3
  · by_cases e : j = x
    · subst e
      refine ⟨fun _ => ⟨p, q, ?_⟩, fun hd => absurd (.inr rfl) hd⟩
      rw [Array.getElem?_setIfInBounds_self, if_pos (by rw [h2]; omega)]
    · rw [Array.getElem?_setIfInBounds_ne (fun e2 => e e2.symm)]
      exact ⟨fun hd => (h4 j hj).1 (hd.resolve_right e), fun hd => (h4 j hj).2 (fun hd2 => hd (.inl hd2))⟩
/-- It is done. -/
theorem BdI.rep (h : BdI w o b A c L (fun j => (False ∨ j = 46) ∨ j = 44) W) (hL : L = [⟨#[46]⟩, ⟨#[44]⟩]) : RepAt W b := by
  obtain ⟨C, h1, h2, h3, h4⟩ := h.big
  subst hL
  obtain ⟨g, cur, hA, _, _, _⟩ := h.row.form (by simp)
  obtain ⟨t, off, hA2, _, hc⟩ := RdS.row (f := S1r) (n := 1) (fun _ => rfl) (by omega) h.row.rd (by simp)
  have e0 := hc 0 (by simp) 0 _ rfl
  have e1 := hc 1 (by simp) 0 _ rfl
  rw [hA] at hA2
  injection hA2 with hA2
  injection hA2 with q1 q2 _
  subst q1 q2
  refine ⟨fun j hj => ⟨fun hd => ?_, fun hd => ?_⟩, g, c, ?_, ?_, ?_⟩
  · obtain ⟨a, q, h5⟩ := (h4 j hj).1 (by rcases hd with rfl | rfl; exact .inr rfl; exact .inl (.inr rfl))
    exact ⟨a, q, by rw [cell_of_row W b _ _ _ (0, 0) h1]; exact h5⟩
  · rw [cell_of_row W b _ _ _ (0, 0) h1]
    exact (h4 j hj).2 (fun hd2 => hd (by rcases hd2 with (h | h) | h; exact h.elim; exact .inr h; exact .inl h))
  · rw [cell_of_row W b _ _ _ (0, 0) h1, h3, hA]; rfl
  · simpa using e0
  · simpa using e1
/-- A string more, an empty row of bytes: what is there when that row is put down. -/
theorem BdI.round (h : BdI w o b A c L done W) (hol : o < w.heap.size) {o1 o2 : Obj} {w5 : World} {A5 : Option Addr} {c5 : Nat} {L5 : List ByteArray} {s : ByteArray} (hL : L5 = L ++ [s]) (ho : OwnS S1r 1 w5 w.heap.size 9 A5 c5 L5) (hg : ((W.alloc o1).alloc o2).grownBy w5 (blk A)) {x : Nat} (hx : x < 256) (hd : ¬ done x) :
    w5.cell? ⟨b, 256, none⟩ = some (.slice A L.length c) ∧ w5.frozen? ⟨b, 256, none⟩ = false ∧ (Lib.bytesWorld (w5.setCell ⟨b, 256, none⟩ (.slice A5 L5.length c5)) 5 ⟨#[]⟩).cell? ⟨b, x, none⟩ = some (.slice none 0 0) ∧ (Lib.bytesWorld (w5.setCell ⟨b, 256, none⟩ (.slice A5 L5.length c5)) 5 ⟨#[]⟩).frozen? ⟨b, x, none⟩ = false ∧
    Hid (BdI w o b A5 c5 L5 done (Lib.bytesWorld (w5.setCell ⟨b, 256, none⟩ (.slice A5 L5.length c5)) 5 ⟨#[]⟩)) := by
  subst hL
  obtain ⟨⟨u, v⟩, hn⟩ := (h.below (((Below.refl _ _).alloc (Nat.le_refl _) o1).alloc (by simp) o2) hol).more (s := s) ho hg hol
  have hn2 := hn.below (below_bytes _ 5 ⟨#[]⟩) hol
  obtain ⟨-, -, xj⟩ := hn2.cells
  obtain ⟨y, z⟩ := xj x hx
  exact ⟨u, v, z hd, y, Lib.hid hn2⟩
end
set_option maxHeartbeats 4000000 in
set_option maxRecDepth 100000 in
theorem build_any (r o c : Nat) (w : World) (h : w.cell? ⟨r, 4, none⟩ = some (.slice (some ⟨o, 0, none⟩) 4 c)) (ho : Old4 w o) :
    Calls Tryz.prog 84 #[.pointer (some ⟨r, 0, none⟩)] w fun e w' => ∃ b, e = .returned (.iface 179 (.pointer (some ⟨b, 0, none⟩))) ∧ w.heap.size ≤ b ∧ RepAt w' b ∧ Below w.heap.size w w' := by
  have HO := Lib.hid ho
  have HOL : Hid (o < w.heap.size) := Lib.hid (World.block_lt_of_cell? w _ ho.c0)
  obtain ⟨c0, c1, c2, c3⟩ := ho
  have hst := store_zero
  have ix6 : ∀ w : World, (Instr.index 9 (.string ⟨#[46]⟩) (.int .i64 0)).run Tryz.prog w = .ok (.int .u8 46) w := fun _ => by kernel_rfl
  have ix4 : ∀ w : World, (Instr.index 9 (.string ⟨#[44]⟩) (.int .i64 0)).run Tryz.prog w = .ok (.int .u8 44) w := fun _ => by kernel_rfl
  go_enter Tryz.func84, Tryz.ntmps84
  go_wp2_with fail
  refine wp_loop_rounds 3 ?_
  rw [rounds_succ]
  go_wp2_with fail
  rw [rounds_succ]
  go_wp2_with fail
  rw [rounds_succ]
  go_wp2_with (refine wpList_make_s _ rfl _ _ strTr rfl _ _ 2 rfl rfl (by omega) (by unfold maxLen; omega) ?_)
  intro w1 ho1 hg1
  go_wp2_with fail
  have HI : Hid (BdI w o w1.heap.size (some ⟨w.heap.size, 0, none⟩) 2 [] (fun _ => False) (w1.alloc (.cells (repC (.slice (some ⟨w.heap.size, 0, none⟩) 0 2)) 178))) := Lib.hid (by
    have hb1 : Below w.heap.size w w1 := below_grow (Below.refl _ _) hg1 (fun q hq => by cases hq) (Nat.le_refl _)
    have hb2 : Below w.heap.size w (w1.alloc (.cells (repC (.slice (some ⟨w.heap.size, 0, none⟩) 0 2)) 178)) := hb1.alloc hb1.size _
    exact ⟨⟨_, heap_alloc_new w1 _, repC_size _, repC_last _, fun j hj => ⟨fun h => h.elim, fun _ => repC_at _ j hj⟩⟩, ho1.alloc _, HO.out.below hb2 HOL.out, hb2, hb1.size⟩)
  obtain ⟨W, hW⟩ : ∃ W, W = w1.alloc (.cells (repC (.slice (some ⟨w.heap.size, 0, none⟩) 0 2)) 178) := ⟨_, rfl⟩
  obtain ⟨b, hb⟩ : ∃ b, b = w1.heap.size := ⟨_, rfl⟩
  rw [← hW] at HI ⊢
  rw [← hb] at HI ⊢
  have hcs6 : ∀ W : World, (convert 39 9 (.slice (some ⟨W.heap.size, 0, none⟩) 1 1)).run Tryz.prog (W.alloc (.cells #[.int .u8 46] 5)) = .ok (.string ⟨#[46]⟩) (W.alloc (.cells #[.int .u8 46] 5)) := fun W => conv_one W 46 46 rfl
  have hcn := conv_none
  have heq : ∀ W : World, (binOp .eql 39 (.slice none 0 0) (.slice none 0 0)).run Tryz.prog W = .ok (.bool true) W := fun W => Lib.run_eql_slice_nil W _ _ none 0 0 0 0 Tryz.underlying39
  clear c0 c1 c2 c3 hst hW hb ho1 hg1 h
  obtain ⟨c0, c1, c2, c3⟩ := HI.out.old
  obtain ⟨q256, f256, qj⟩ := HI.out.cells
  obtain ⟨f46, q46⟩ := qj 46 (by decide)
  have q46 := q46 (fun h => h)
  clear qj
  refine wp_loop_rounds 3 ?_
  rw [rounds_succ]
  go_wp2_with (at_builtin; refine wpList_append_s _ rfl _ _ strTr rfl w.heap.size (some ⟨w.heap.size, 0, none⟩) 2 ([] : List ByteArray) rfl ((HI.out.row.alloc _).alloc _) (W.heap.size + 1 + 1) (some ⟨W.heap.size + 1, 0, none⟩) 1 1 [⟨#[46]⟩] rfl rfl (by exact rd_str_new _ _ _ (by simp)) (by simp) (by unfold maxLen; simp) (by have := HI.out.bel.size; simp; omega) ?_; intro A5 c5 L5 w5 hL5 ho5 hg5 _; obtain ⟨u1, u2, u3, u4, HN⟩ := HI.out.round HOL.out hL5 ho5 hg5 (x := 46) (by decide) (fun h => h); have HL5 := Lib.hid hL5; clear ho5 hg5 hL5)
  obtain ⟨W2, hW2⟩ : ∃ W2, W2 = ((Lib.bytesWorld (w5.setCell ⟨b, 256, none⟩ (.slice A5 L5.length c5)) 5 ⟨#[]⟩).setCell ⟨b, 46, none⟩ (.slice (some ⟨w5.heap.size, 0, none⟩) 0 (grownCap (w5.setCell ⟨b, 256, none⟩ (.slice A5 L5.length c5)) 0 0 5))) := ⟨_, rfl⟩
  have HN2 : Hid (BdI w o b A5 c5 L5 (fun j => False ∨ j = 46) W2) := Lib.hid (by rw [hW2]; exact HN.out.put (by decide) HOL.out)
  rw [← hW2]
  have hcs4 : ∀ W : World, (convert 39 9 (.slice (some ⟨W.heap.size, 0, none⟩) 1 1)).run Tryz.prog (W.alloc (.cells #[.int .u8 44] 5)) = .ok (.string ⟨#[44]⟩) (W.alloc (.cells #[.int .u8 44] 5)) := fun W => conv_one W 44 44 rfl
  clear hW2 HN u1 u2 u3 u4 q256 f256 f46 q46 c0 c1 c2 c3 HI hcs6
  obtain ⟨c0, c1, c2, c3⟩ := HN2.out.old
  obtain ⟨q256, f256, qj⟩ := HN2.out.cells
  obtain ⟨f44, q44⟩ := qj 44 (by decide)
  have q44 := q44 (by decide)
  clear qj
  rw [rounds_succ]
  go_wp2_with (at_builtin; refine wpList_append_s _ rfl _ _ strTr rfl w.heap.size A5 c5 L5 rfl ((HN2.out.row.alloc _).alloc _) (W2.heap.size + 1 + 1) (some ⟨W2.heap.size + 1, 0, none⟩) 1 1 [⟨#[44]⟩] rfl rfl (by exact rd_str_new _ _ _ (by simp)) (by rw [HL5.out]; simp) (by rw [HL5.out]; unfold maxLen; simp) (by have := HN2.out.bel.size; simp; omega) ?_; intro A7 c7 L7 w7 hL7 ho7 hg7 _; obtain ⟨u1, u2, u3, u4, HM⟩ := HN2.out.round HOL.out hL7 ho7 hg7 (x := 44) (by decide) (by decide); have HL7 := Lib.hid hL7; clear ho7 hg7 hL7)
  obtain ⟨W3, hW3⟩ : ∃ W3, W3 = ((Lib.bytesWorld (w7.setCell ⟨b, 256, none⟩ (.slice A7 L7.length c7)) 5 ⟨#[]⟩).setCell ⟨b, 44, none⟩ (.slice (some ⟨w7.heap.size, 0, none⟩) 0 (grownCap (w7.setCell ⟨b, 256, none⟩ (.slice A7 L7.length c7)) 0 0 5))) := ⟨_, rfl⟩
  have HM2 : Hid (BdI w o b A7 c7 L7 (fun j => (False ∨ j = 46) ∨ j = 44) W3) := Lib.hid (by rw [hW3]; exact HM.out.put (by decide) HOL.out)
  rw [← hW3]
  clear hW3 HM u1 u2 u3 u4 q256 f256 f44 q44 c0 c1 c2 c3 HN2 hcs4
  rw [rounds_succ]
  go_wp2_with fail
  go_ret
  exact ⟨b, rfl, HM2.out.bge, HM2.out.rep (by rw [HL7.out, HL5.out]; rfl), HM2.out.bel⟩
end Go.Proofs.YtlmejpkngnilcaaGreatDoor
