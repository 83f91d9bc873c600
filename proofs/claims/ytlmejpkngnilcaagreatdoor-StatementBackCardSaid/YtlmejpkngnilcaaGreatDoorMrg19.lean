/- Parts of the proof, one behind the other: The contract of statement.Amount, of any text. -/
import Derived.Test.YtlmejpkngnilcaaGreatDoorMrg17
import Derived.Test.YtlmejpkngnilcaaGreatDoorMrg11
import Derived.Test.YtlmejpkngnilcaaGreatDoorMrg18
import Derived.Test.YtlmejpkngnilcaaGreatDoorMrg01
namespace Go.Proofs.YtlmejpkngnilcaaGreatDoor
open Go.RowKit

/-- The library's two errors lie where they lie. -/
structure Errs (w : World) : Prop where
  s : ∃ v, w.cell? ⟨0, 0, none⟩ = some v ∧ (v = .nilIface ∨ ∃ te pe, v = .iface te pe)
  r : ∃ v, w.cell? ⟨1, 0, none⟩ = some v ∧ (v = .nilIface ∨ ∃ te pe, v = .iface te pe)
theorem Errs.below {w w' : World} (h : Errs w) (hb : Below w.heap.size w w') : Errs w' := by
  obtain ⟨v, h1, h2⟩ := h.s
  obtain ⟨u, h3, h4⟩ := h.r
  exact ⟨⟨v, (hb.cell (World.block_lt_of_cell? w _ h1)).trans h1, h2⟩, ⟨u, (hb.cell (World.block_lt_of_cell? w _ h3)).trans h3, h4⟩⟩
/-- The amount of a text. -/
def amtP (l : List UInt8) : Option Int := match Lib.parseIntB 64 (bareL l) with
  | .ok n => if moneyL n = l then some n else none
  | _ => none
theorem amtP_money (a : Int) (h0 : -9223372036854775808 ≤ a) (h1 : a ≤ 9223372036854775807) : amtP (moneyL a) = some a := by
  unfold amtP
  rw [parse_bare a h0 h1]
  simp
def amtV : Option Int → Value
  | some n => .tuple #[.int .i64 n, .int .i64 0]
  | none => .tuple #[.int .i64 0, .int .i64 3]
set_option maxHeartbeats 2000000 in
set_option maxRecDepth 100000 in
theorem amount_any (s : ByteArray) (L : List UInt8) (hL : L = s.data.toList) (hs : s.size ≤ 1000000) (w : World) (ht : Tab w) (he : Errs w) :
    Calls Tryz.prog 11 #[.string s] w fun e w' => e = .returned (amtV (amtP L)) ∧ Below w.heap.size w w' := by
  obtain ⟨W, hW⟩ : ∃ W, W = w.alloc (.cells #[.string ⟨#[44]⟩, .string ⟨#[]⟩, .string ⟨#[46]⟩, .string ⟨#[]⟩] 9) := ⟨_, rfl⟩
  have hb : Below w.heap.size w W := by rw [hW]; exact (Below.refl _ _).alloc (Nat.le_refl _) _
  have hx : W.heap[w.heap.size]? = some (.cells #[.string ⟨#[44]⟩, .string ⟨#[]⟩, .string ⟨#[46]⟩, .string ⟨#[]⟩] 9) := by rw [hW]; exact heap_alloc_new w _
  have ho : Old4 W w.heap.size := ⟨by rw [cell_of_row W _ 0 _ _ (0, 0) hx]; rfl, by rw [cell_of_row W _ 1 _ _ (0, 0) hx]; rfl, by rw [cell_of_row W _ 2 _ _ (0, 0) hx]; rfl, by rw [cell_of_row W _ 3 _ _ (0, 0) hx]; rfl⟩
  have KN := Lib.hid (newrep_any w.heap.size W ho)
  have HB := Lib.hid hb
  have HT := Lib.hid ht
  have HE := Lib.hid he
  have HL := Lib.hid hL
  have HS := Lib.hid hs
  rw [hW] at KN
  clear hb hx ho ht he hL hs
  go_enter Tryz.func11, Tryz.ntmps11
  go_wp2_with fail
  refine KN.out.mono ?_
  rw [← hW]
  rintro e w1 ⟨r, o, c, rfl, hr, hn, hb1⟩
  have KR := Lib.hid (replace_any r o c s L HL.out HS.out w1 hn)
  have HB1 : Hid (Below w.heap.size w w1) := Lib.hid (HB.out.trans (hb1.mono HB.out.size))
  have HR : Hid (w.heap.size ≤ r) := Lib.hid (Nat.le_trans HB.out.size hr)
  clear hr hn hb1 KN hW
  go_wp2_with fail
  refine KR.out.mono ?_
  rintro e w2 ⟨rfl, hb2⟩
  have HB2 : Hid (Below w.heap.size w w2) := Lib.hid (HB1.out.trans (hb2 _ HR.out))
  clear hb2 KR
  obtain ⟨B, hB⟩ : ∃ B : ByteArray, B = ⟨(bareL L).toArray⟩ := ⟨_, rfl⟩
  have hBL : B.data.toList = bareL L := by rw [hB]
  have hBs : B.size ≤ 1000000 := by
    have h1 : B.size = (bareL L).length := by rw [hB]; rfl
    have h2 := bareL_le L
    have h3 : L.length = s.size := by rw [HL.out]; simp
    have := HS.out
    omega
  rw [← hB]
  have HE2 := Lib.hid (HE.out.below HB2.out)
  have HBL := Lib.hid hBL
  have HAM : Hid (amtP L = match Lib.parseIntB 64 B.data.toList with | .ok n => if moneyL n = L then some n else none | _ => none) := Lib.hid (by rw [hBL]; rfl)
  clear hB hBL
  rcases hp : Lib.parseIntB 64 B.data.toList with n | _ | _
  · have hbd := Lib.parseIntB_bounds hp
    have K := Lib.hid (Tryz.strconv_ParseInt_10_at64_ok B (by omega) n hp w2)
    have HP := Lib.hid hp
    clear hp
    go_wp2_with fail
    refine K.out.mono ?_
    rintro e w3 ⟨rfl, hw3⟩
    have HB3 : Hid (Below w2.heap.size w2 w3) := Lib.hid (by
      rcases hw3 with h | ⟨t, h⟩
      · rw [h]; exact Below.refl _ _
      · rw [h]; exact below_bytes _ _ _)
    clear hw3
    go_wp2_with fail
    have HB23 : Hid (Below w.heap.size w w3) := Lib.hid (HB2.out.trans (HB3.out.mono HB2.out.size))
    refine (money_any n (by omega) (by omega) w3 (HT.out.below HB23.out)).mono ?_
    rintro e w4 ⟨rfl, hb4⟩
    have HB4 : Hid (Below w.heap.size w w4) := Lib.hid (HB23.out.trans (hb4.mono HB23.out.size))
    obtain ⟨M, hM⟩ : ∃ M : ByteArray, (⟨(moneyL n).toArray⟩ : ByteArray) = M := ⟨_, rfl⟩
    have hsL : (⟨L.toArray⟩ : ByteArray) = s := by rw [HL.out]
    have hVV : amtP L = if moneyL n = L then some n else none := by rw [HAM.out, HP.out]
    rw [hM]
    by_cases hq : moneyL n = L
    · have e0 : M = s := by rw [← hM, ← hsL, hq]
      have e1 : (M.toList == s.toList) = true := by rw [e0]; exact beq_self_eq_true _
      have e2 : (M.toList != s.toList) = false := by rw [bne, e1]; rfl
      have HV : Hid (amtP L = some n) := Lib.hid (by rw [hVV, if_pos hq])
      clear hq hVV hsL hM hb4
      go_wp2_with fail
      go_ret2
      exact ⟨by rw [HV.out]; rfl, HB4.out⟩
    · have e1 : (M.toList == s.toList) = false := str_ne hM hsL hq
      have e2 : (M.toList != s.toList) = true := by rw [bne, e1]; rfl
      have HV : Hid (amtP L = none) := Lib.hid (by rw [hVV, if_neg hq])
      clear hq hVV hsL hM hb4
      go_wp2_with fail
      go_ret2
      exact ⟨by rw [HV.out]; rfl, HB4.out⟩
  · obtain ⟨v, h1, h2⟩ := HE2.out.s
    have K := Lib.hid (Tryz.strconv_ParseInt_10_at64_syntax B (by omega) hp v w2 h1 h2)
    have HV : Hid (amtP L = none) := Lib.hid (by rw [HAM.out, hp])
    clear hp h1 h2
    go_wp2_with fail
    refine K.out.mono ?_
    rintro e w3 ⟨N, rfl, _, _, hb3⟩
    have HB3 := Lib.hid hb3
    clear hb3 K
    go_wp2_with fail
    go_ret2
    exact ⟨by rw [HV.out]; rfl, HB2.out.trans (HB3.out.mono HB2.out.size)⟩
  · obtain ⟨v, h1, h2⟩ := HE2.out.r
    have K := Lib.hid (Tryz.strconv_ParseInt_10_at64_range B (by omega) hp v w2 h1 h2)
    have HV : Hid (amtP L = none) := Lib.hid (by rw [HAM.out, hp])
    clear hp h1 h2
    go_wp2_with fail
    refine K.out.mono ?_
    rintro e w3 ⟨N, rfl, _, _, hb3⟩
    have HB3 := Lib.hid hb3
    clear hb3 K
    go_wp2_with fail
    go_ret2
    exact ⟨by rw [HV.out]; rfl, HB2.out.trans (HB3.out.mono HB2.out.size)⟩
end Go.Proofs.YtlmejpkngnilcaaGreatDoor
