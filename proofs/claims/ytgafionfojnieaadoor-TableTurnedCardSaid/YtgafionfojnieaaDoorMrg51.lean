/- Parts of the proof, one behind the other: Contracts: few and awake of the table's law.; The walk of the law TableBuilds.; The walk of the law TableTurned. -/
import Derived.Test.YtgafionfojnieaaDoorMrg50
import Derived.Test.YtgafionfojnieaaDoorMrg49
import Derived.Lib.SlBytesConst
namespace Go.Proofs.YtgafionfojnieaaDoor
open Go.RowKit

/-- What few tells. -/
def FewP (l : List Rv) (q : Bool) : Prop := q = true → l.length ≤ 600 ∧ ∀ r ∈ l, r.k.length ≤ 1000 ∧ r.v.length ≤ 5000
/-- Some answer of few. -/
def FewQ (l : List Rv) (e : Ending) : Prop := ∃ q, e = .returned (.bool q) ∧ FewP l q
theorem few_no (l : List Rv) : FewP l false := fun h => by cases h
set_option maxHeartbeats 2000000 in
set_option maxRecDepth 100000 in
theorem few_any (A : Option Addr) (c : Nat) (l : List Rv) (w : World) (h : RdRv w w.heap.size A l) :
    Calls Tryd.prog 6 #[.slice A l.length c] w fun e w' => FewQ l e ∧ Below w.heap.size w w' := by
  by_cases h6 : (600 : Int) < (l.length : Int)
  · go_enter Tryd.func6, Tryd.ntmps6
    go_wp2_with fail
    go_ret
    exact ⟨⟨false, rfl, few_no l⟩, Below.refl _ _⟩
  · have h600 : l.length ≤ 600 := by omega
    have HR := Lib.hid h
    clear h
    go_enter Tryd.func6, Tryd.ntmps6
    go_wp2_with fail
    go_loopw [3, 4] (fun n i wr => ∃ (k : Nat) (N : Int), k ≤ l.length ∧ n = .int .i64 N ∧ 0 ≤ N ∧ N ≤ 100000 ∧ i = .int .i64 (k : Int) ∧ Hid (Below w.heap.size w wr) ∧ Hid (∀ j (hj : j < l.length), j < k → l[j].k.length ≤ 1000 ∧ l[j].v.length ≤ 5000)) (fun _ i _ => l.length - (intOf i).toNat)
    case atStart => exact ⟨0, 0, by omega, rfl, by omega, by omega, rfl, Lib.hid (Below.refl _ _), Lib.hid (fun j hj hk => by omega)⟩
    case round =>
      obtain ⟨k, N, hk, rfl, hN0, hN1, rfl, HB, HJ⟩ := hrel
      by_cases hlt : k < l.length
      · obtain ⟨b, off, hA, hb, hc⟩ := HR.out.row4 (by omega)
        obtain ⟨c0, _, _, c3⟩ := hc k hlt
        have q0 := (HB.out.cell (p := ⟨b, off + k * 4, none⟩) hb).trans c0
        have q3 := (HB.out.cell (p := ⟨b, off + k * 4 + 3, none⟩) hb).trans c3
        obtain ⟨r, hr⟩ : ∃ r, r = l[k] := ⟨_, rfl⟩
        rw [← hr] at q0 q3
        have HJR : Hid (r.k.length ≤ 1000 → r.v.length ≤ 5000 → ∀ j (hj : j < l.length), j < k + 1 → l[j].k.length ≤ 1000 ∧ l[j].v.length ≤ 5000) := Lib.hid (fun h1 h2 j hj hjk => by
          rcases Nat.lt_or_ge j k with h3 | h3
          · exact HJ.out j hj h3
          · obtain rfl : j = k := by omega
            rw [← hr]; exact ⟨h1, h2⟩)
        clear c0 c3 hc hr
        subst hA
        obtain ⟨kA, kc, rk, seq, del, vA, vc, rv⟩ := r
        simp only at q0 q3 HJR
        obtain ⟨K, hK⟩ : ∃ K, K = rk.length := ⟨_, rfl⟩
        obtain ⟨V, hV⟩ : ∃ V, V = rv.length := ⟨_, rfl⟩
        rw [← hK] at q0 HJR
        rw [← hV] at q3 HJR
        clear hK hV
        by_cases t1 : (1000 : Int) < (K : Int)
        · go_wp2_with fail
          go_ret
          exact ⟨⟨false, rfl, few_no l⟩, HB.out⟩
        · by_cases t2 : (5000 : Int) < (V : Int)
          · go_wp2_with fail
            go_ret
            exact ⟨⟨false, rfl, few_no l⟩, HB.out⟩
          · have hK1 : K ≤ 1000 := by omega
            have hV1 : V ≤ 5000 := by omega
            have HJ2 := Lib.hid (HJR.out hK1 hV1)
            have w1 : IntKind.i64.wrap (N + (K : Int)) = N + (K : Int) := by rw [IntKind.wrap_i64]; omega
            have w2 : IntKind.i64.wrap (N + (K : Int) + (V : Int)) = N + (K : Int) + (V : Int) := by rw [IntKind.wrap_i64]; omega
            go_wp2_with fail
            go_quiet (fail)
            refine drewN_any ?_
            intro X hbX hX
            have HBX := Lib.hid (HB.out.trans (hbX.mono HB.out.size))
            clear hbX hX q0 q3 w1 w2
            by_cases t3 : (100000 : Int) < N + (K : Int) + (V : Int)
            · go_wp2_with fail
              go_ret
              exact ⟨⟨false, rfl, few_no l⟩, HBX.out⟩
            · go_wp2_with fail
              go_roundw
              case rel => exact ⟨k + 1, N + (K : Int) + (V : Int), by omega, rfl, by omega, by omega, by simp, HBX, HJ2⟩
              case measure =>
                show l.length - ((k : Int) + 1).toNat < l.length - ((k : Int)).toNat
                omega
      · have hke : k = l.length := by omega
        have HFE : Hid (FewP l true) := Lib.hid (fun _ => ⟨h600, fun r hr => by
          obtain ⟨j, hj, e⟩ := List.getElem_of_mem hr
          have := HJ.out j hj (by omega)
          rw [e] at this
          exact this⟩)
        go_wp2_with fail
        go_ret
        exact ⟨⟨true, rfl, HFE.out⟩, HB.out⟩
/-- How many records a table has. -/
theorem tlen_any (g : Nat) (n : Int) (w : World) (h : w.cell? ⟨g, 2, none⟩ = some (.int .i64 n)) :
    Calls Tryd.prog 11 #[.pointer (some ⟨g, 0, none⟩)] w fun e w' => e = .returned (.int .i64 n) ∧ w = w' := by
  go_enter Tryd.func11, Tryd.ntmps11
  go_wp2_with fail
  go_ret
  exact ⟨rfl, rfl⟩
set_option maxHeartbeats 2000000 in
set_option maxRecDepth 100000 in
theorem awake_any (w : World) : Calls Tryd.prog 5 #[] w fun e w' => e = .returned (.bool true) ∧ Below w.heap.size w w' := by
  obtain ⟨q, hq⟩ : ∃ q : Rv, q = ⟨some ⟨w.heap.size, 0, none⟩, 1, [97], 2, false, none, 0, []⟩ := ⟨_, rfl⟩
  obtain ⟨W, hW⟩ : ∃ W, (w.alloc (.cells #[.int .u8 97] 5 (1, 2))).alloc (.cells #[.slice (some ⟨w.heap.size, 0, none⟩) 1 1, .int .i64 2, .bool false, .slice none 0 0] 37) = W := ⟨_, rfl⟩
  have hbW : Below w.heap.size w W := by rw [← hW]; exact below_al2 w _ _
  have hsz : W.heap.size = w.heap.size + 2 := by rw [← hW]; simp
  have hrd : RdRv W W.heap.size (some ⟨w.heap.size + 1, 0, none⟩) [q] := by
    refine ⟨?_, fun r hr => ?_⟩
    · have := rd_rec_new2 w (.cells #[.int .u8 97] 5 (1, 2)) q
      rw [hsz, ← hW]
      rw [hq] at this ⊢
      exact this
    · obtain rfl : r = q := by simpa using hr
      have h1 : RdB (w.alloc (.cells #[.int .u8 97] 5 (1, 2))) (w.heap.size + 1) (some ⟨w.heap.size, 0, none⟩) [97] := by
        have := rdB_one (w := w.alloc (.cells #[.int .u8 97] 5 (1, 2))) (g := w.heap.size) (x := 97) (b := 97) (by rw [cell_of_row _ w.heap.size 0 _ _ (1, 2) (heap_alloc_new w _)]; rfl) rfl (by simp)
        simpa using this
      have hb2 : Below (w.heap.size + 1) (w.alloc (.cells #[.int .u8 97] 5 (1, 2))) W := by
        rw [← hW]
        exact (Below.refl _ _).alloc (by simp) _
      have h2 := (h1.below hb2 (Nat.le_refl _)).more (show w.heap.size + 1 ≤ W.heap.size by omega)
      rw [hq]
      exact ⟨h2, Reads.none_, by simp, by simp⟩
  have hbe : Tb.build [q] 64 10 = Tb.build [Tb.one] 64 10 := Tb.build_core (by rw [hq]; rfl) _ _
  have KB := tbuild_any (some ⟨w.heap.size + 1, 0, none⟩) 1 [q] 64 10 W hrd (by simp)
  rw [hbe, Tb.one_built] at KB
  have HIS0 := Lib.hid (Tb.is_of Tb.one_built)
  obtain ⟨b, hb⟩ : ∃ b, b = (Tb.build [Tb.one] 64 10).2 := ⟨_, rfl⟩
  rw [← hb] at KB HIS0
  have HLB := Lib.hid (HIS0.out.long (by simp))
  have HK := Lib.hid KB
  have HBW := Lib.hid hbW
  have HSZ := Lib.hid hsz
  have HW := Lib.hid hW
  clear KB hb hbe hrd hq hsz hbW hW
  have kc := fun (w : World) (C : Array Value) (n c : Nat) => Lib.run_convert_bytes_const (P := Tryd.prog) w 25 5 C n c Tryd.underlying25 Tryd.underlying5
  go_enter Tryd.func5, Tryd.ntmps5
  go_wp2_with fail
  rw [HW.out]
  refine HK.out.mono ?_
  rintro e w1 ⟨hb1, ⟨h0, _⟩ | ⟨_, AA, ac, rfl, hoa⟩⟩
  · exact absurd rfl h0
  have HB1 := Lib.hid (HBW.out.trans (hb1.mono HBW.out.size))
  have KO := topen_any AA ac b w1 hoa.rd (by have := HLB.out; omega) hoa.cap hoa.cap_le
  have HK2 := Lib.hid KO
  clear KO hb1 hoa
  go_wp2_with fail
  refine HK2.out.mono ?_
  rintro e w2 ⟨hb2, ⟨_, hno⟩ | ⟨R, g, s, t, rfl, hg, hcell, hR, hall⟩⟩
  · exact absurd HIS0.out (hno _ _ _)
  have hlen := congrArg List.length (hall _ _ _ HIS0.out)
  simp only [List.length_map, List.length_singleton] at hlen
  rw [← hlen] at hcell
  have HB2 := Lib.hid (HB1.out.trans (hb2.mono HB1.out.size))
  have HL := Lib.hid (tlen_any g 1 w2 hcell)
  clear hb2 hlen hcell hR hall hg
  go_wp2_with fail
  refine HL.out.mono ?_
  rintro e w3 ⟨rfl, rfl⟩
  go_wp2_with fail
  go_ret
  exact ⟨rfl, HB2.out⟩
end Go.Proofs.YtgafionfojnieaaDoor

namespace Go.Proofs.YtgafionfojnieaaDoor
open Go.RowKit

set_option maxHeartbeats 2000000 in
set_option maxRecDepth 100000 in
theorem tableBuilds_walk (A : Option Addr) (c : Nat) (l : List Rv) (size bits : Int) (w : World) (h : RdRv w w.heap.size A l) (_ : (Lit.int .i64 size).wf = true) (_ : (Lit.int .i64 bits).wf = true) :
    Calls Tryd.prog 3 #[.slice A l.length c, .int .i64 size, .int .i64 bits] w fun e w' => e = .returned (.bool true) ∧ Below w.heap.size w w' := by
  have HR := Lib.hid h
  clear h
  go_enter Tryd.func3, Tryd.ntmps3
  go_wp2_with fail
  refine (awake_any w).mono ?_
  rintro e w1 ⟨rfl, hb1⟩
  have HB1 := Lib.hid hb1
  have HR1 := Lib.hid ((HR.out.below hb1 (Nat.le_refl _)).more hb1.size)
  clear hb1
  go_wp2_with fail
  refine (few_any A c l w1 HR1.out).mono ?_
  rintro e w2 ⟨⟨q, rfl, hq⟩, hb2⟩
  have HB2 := Lib.hid (HB1.out.trans (hb2.mono HB1.out.size))
  have HR2 := Lib.hid ((HR1.out.below hb2 (Nat.le_refl _)).more hb2.size)
  clear hb2
  rcases q with _ | _
  · go_wp2_with fail
    go_ret
    exact ⟨rfl, HB2.out⟩
  · have HQ := Lib.hid (hq rfl)
    have K1 := tbuild_any A c l size bits w2 HR2.out (by have := HQ.out.1; omega)
    obtain ⟨er, her⟩ : ∃ er, er = (Tb.build l size bits).1 := ⟨_, rfl⟩
    obtain ⟨bb, hbb⟩ : ∃ bb, bb = (Tb.build l size bits).2 := ⟨_, rfl⟩
    have HE : Hid (er = (Tb.build l size bits).1 ∧ bb = (Tb.build l size bits).2) := Lib.hid ⟨her, hbb⟩
    rw [← her, ← hbb] at K1
    have HK1 := Lib.hid K1
    clear K1 her hbb hq
    go_wp2_with fail
    refine HK1.out.mono ?_
    rintro e w3 ⟨hb3, hh⟩
    have HB3 := Lib.hid (HB2.out.trans (hb3.mono HB2.out.size))
    have HR3 := Lib.hid ((HR2.out.below hb3 (Nat.le_refl _)).more hb3.size)
    have K2 := rtbuild_any A c l size bits w3 HR3.out (by have := HQ.out.1; omega) (fun r hr => by have := HQ.out.2 r hr; omega)
    rw [← HE.out.1, ← HE.out.2] at K2
    have HK2 := Lib.hid K2
    clear K2 hb3
    rcases hh with ⟨hne, rfl⟩ | ⟨h0, AA, ac, rfl, hoa⟩
    · have HNE := Lib.hid hne
      clear hne
      go_wp2_with fail
      refine HK2.out.mono ?_
      rintro e w4 ⟨hb4, ⟨hne, rfl⟩ | ⟨h0, AA, ac, rfl, hoa⟩⟩
      · have HB4 := Lib.hid (HB3.out.trans (hb4.mono HB3.out.size))
        have s1 := strB_of (c := 0) (show RdB w4 w4.heap.size none [] from Reads.none_)
        unfold StrB at s1
        simp only [List.length_nil] at s1
        clear hb4 hne
        go_wp2_with fail
        go_ret
        exact ⟨by simp, HB4.out⟩
      · exact absurd h0 HNE.out
    · have HOA := Lib.hid hoa
      subst h0
      clear hoa
      go_wp2_with fail
      refine HK2.out.mono ?_
      rintro e w4 ⟨hb4, ⟨hne, rfl⟩ | ⟨h0, AA2, ac2, rfl, hoa2⟩⟩
      · exact absurd rfl hne
      · have HB4 := Lib.hid (HB3.out.trans (hb4.mono HB3.out.size))
        have s1 := strB_of (c := ac) (HOA.out.rd.below hb4 (Nat.le_refl _))
        have s2 := strB_of (c := ac2) hoa2.rd
        unfold StrB at s1 s2
        clear hb4 hoa2 h0
        go_wp2_with fail
        go_ret
        exact ⟨by simp, HB4.out⟩
end Go.Proofs.YtgafionfojnieaaDoor

namespace Go.Proofs.YtgafionfojnieaaDoor
open Go.RowKit

theorem xor_u8 (a b : UInt8) (A B : Nat) (hA : A = a.toNat) (hB : B = b.toNat) : bits .xor .u8 (A : Int) (B : Int) = ((a ^^^ b).toNat : Int) := by
  subst hA hB
  have h1 : (BitVec.ofInt 8 (a.toNat : Int)).toNat = a.toNat := by
    rw [BitVec.ofInt_natCast, BitVec.toNat_ofNat]; exact Nat.mod_eq_of_lt (by have := a.toNat_lt; omega)
  have h2 : (BitVec.ofInt 8 (b.toNat : Int)).toNat = b.toNat := by
    rw [BitVec.ofInt_natCast, BitVec.toNat_ofNat]; exact Nat.mod_eq_of_lt (by have := b.toNat_lt; omega)
  have hx : a.toNat ^^^ b.toNat < 2 ^ 8 := Nat.xor_lt_two_pow a.toNat_lt b.toNat_lt
  show IntKind.u8.wrap ((BitVec.ofInt 8 (a.toNat : Int) ^^^ BitVec.ofInt 8 (b.toNat : Int)).toNat : Int) = _
  rw [BitVec.toNat_xor, h1, h2, IntKind.wrap_u8, UInt8.toNat_xor]
  omega
theorem Own.set {w : World} {base : Nat} {e : TypeId} {g : Nat} {c : Nat} {l : List UInt8} (h : Own w base e (some ⟨g, 0, none⟩) c l) (k : Nat) (x : Int) (d : UInt8) (hx : (d.toNat : Int) = x) : Own (w.setCell ⟨g, k, none⟩ (.int .u8 x)) base e (some ⟨g, 0, none⟩) c (l.set k d) := by
  subst hx
  have := (World.ownsRow.stored h k (.int .u8 (d.toNat : Int))).1
  unfold Own
  rw [List.length_set, show bv (l.set k d) = (bv l).set k (.int .u8 (d.toNat : Int)) by unfold bv; rw [List.map_set]]
  exact this
set_option maxHeartbeats 4000000 in
set_option maxRecDepth 100000 in
theorem tableTurned_walk (A : Option Addr) (c : Nat) (l : List Rv) (at_ turn : Int) (w : World) (h : RdRv w w.heap.size A l) (hat : (Lit.int .i64 at_).wf = true) (ht : (Lit.int .u8 turn).wf = true) :
    Calls Tryd.prog 4 #[.slice A l.length c, .int .i64 at_, .int .u8 turn] w fun e w' => e = .returned (.bool true) ∧ Below w.heap.size w w' := by
  have hbd := Go.bounds_u8 ht
  have hba := Go.bounds_i64 hat
  obtain ⟨x, hx⟩ : ∃ x : UInt8, (x.toNat : Int) = turn := ⟨UInt8.ofNat turn.toNat, byte_of hbd.1 (by omega)⟩
  obtain ⟨X, hX⟩ : ∃ X : Nat, X = x.toNat := ⟨_, rfl⟩
  rw [← hX] at hx
  subst hx
  have HX := Lib.hid hX
  have HR := Lib.hid h
  clear h hX ht hat hbd
  go_enter Tryd.func4, Tryd.ntmps4
  go_wp2_with fail
  refine (awake_any w).mono ?_
  rintro e w1 ⟨rfl, hb1⟩
  have HB1 := Lib.hid hb1
  have HR1 := Lib.hid ((HR.out.below hb1 (Nat.le_refl _)).more hb1.size)
  clear hb1
  go_wp2_with fail
  refine (few_any A c l w1 HR1.out).mono ?_
  rintro e w2 ⟨⟨q, rfl, hq⟩, hb2⟩
  have HB2 := Lib.hid (HB1.out.trans (hb2.mono HB1.out.size))
  have HR2 := Lib.hid ((HR1.out.below hb2 (Nat.le_refl _)).more hb2.size)
  clear hb2
  rcases q with _ | _
  · go_wp2_with fail
    go_ret
    exact ⟨rfl, HB2.out⟩
  have HQ := Lib.hid (hq rfl)
  clear hq
  by_cases ha : at_ < 0
  · go_wp2_with fail
    go_ret
    exact ⟨rfl, HB2.out⟩
  by_cases hx0 : X = 0
  · subst hx0
    go_wp2_with fail
    go_ret
    exact ⟨rfl, HB2.out⟩
  have hx1 : ((X : Int) == 0) = false := by simpa using hx0
  have HXN : Hid (x ≠ 0) := Lib.hid (fun e => hx0 (by rw [HX.out, e]; rfl))
  obtain ⟨a, rfl⟩ : ∃ a : Nat, at_ = (a : Int) := ⟨at_.toNat, by omega⟩
  have K1 := tbuild_any A c l 64 10 w2 HR2.out (by have := HQ.out.1; omega)
  have hee := Tb.build_err l 64 10
  have HIS0 : Hid ((Tb.build l 64 10).1 = 0 → Tb.Is (Tb.build l 64 10).2 l 64 10) := Lib.hid Tb.is_of
  obtain ⟨er, her⟩ : ∃ er, er = (Tb.build l 64 10).1 := ⟨_, rfl⟩
  obtain ⟨bb, hbb⟩ : ∃ bb, bb = (Tb.build l 64 10).2 := ⟨_, rfl⟩
  rw [← her] at K1 hee HIS0
  rw [← hbb] at K1 HIS0
  have HK1 := Lib.hid K1
  have HEE := Lib.hid hee
  clear K1 her hbb hee ha hx0
  go_wp2_with fail
  refine HK1.out.mono ?_
  rintro e w3 ⟨hb3, hh⟩
  have HB3 := Lib.hid (HB2.out.trans (hb3.mono HB2.out.size))
  clear hb3
  rcases hh with ⟨hne, rfl⟩ | ⟨h0, AA, ac, rfl, hoa⟩
  · rcases HEE.out with e | e | e | e
    · exact absurd e hne
    all_goals
      subst e
      clear hne
      go_wp2_with fail
      go_ret
      exact ⟨by simp, HB3.out⟩
  subst h0
  have HIS := Lib.hid (HIS0.out rfl)
  have hlb := HIS.out.long (by have := HQ.out.1; omega)
  have hlp := HIS.out.pos
  obtain ⟨N, hN⟩ : ∃ N, N = bb.length := ⟨_, rfl⟩
  have HN := Lib.hid hN
  have hac : bb.length ≤ ac := hoa.cap
  have KO := rtopen_any AA ac bb w3 hoa.rd (by omega) hac hoa.cap_le
  rw [← hN] at KO hlb hlp hac ⊢
  have HK2 := Lib.hid KO
  have HOA := Lib.hid hoa
  clear KO hoa HIS0 HEE hN
  go_wp2_with fail
  refine HK2.out.mono ?_
  rintro e w4 ⟨hb4, ⟨_, hno⟩ | ⟨R, A2, c2, s, t, he, hrd, hR, hall⟩⟩
  · exact absurd HIS.out (hno _ _ _)
  have hlen := congrArg List.length (hall _ _ _ HIS.out)
  simp only [List.length_map] at hlen
  rw [← hlen] at he
  subst he
  have HB4 := Lib.hid (HB3.out.trans (hb4.mono HB3.out.size))
  have HOA4 := Lib.hid (HOA.out.below hb4)
  clear hb4 hlen hrd hR hall HK1 HK2
  obtain ⟨k, hk⟩ : ∃ k : Nat, k = a % N := ⟨_, rfl⟩
  have hkN : k < N := by rw [hk]; exact Nat.mod_lt _ hlp
  have hrem : (a : Int) % (N : Int) = (k : Int) := by rw [hk]; exact (Int.natCast_emod a N).symm
  have hN0 : ¬ ((N : Int) = 0) := by omega
  obtain ⟨y, hy⟩ : ∃ y, bb[k]? = some y := ⟨_, List.getElem?_eq_getElem (by have := HN.out; omega)⟩
  obtain ⟨Y, hY⟩ : ∃ Y : Nat, Y = y.toNat := ⟨_, rfl⟩
  obtain ⟨z, hz⟩ : ∃ z, z = y ^^^ x := ⟨_, rfl⟩
  obtain ⟨Z, hZ⟩ : ∃ Z : Nat, Z = z.toNat := ⟨_, rfl⟩
  have hxor : bits .xor .u8 (Y : Int) (X : Int) = (Z : Int) := by rw [hZ, hz]; exact xor_u8 y x Y X hY HX.out
  obtain ⟨cc, hcc⟩ : ∃ cc, cc = bb.set k z := ⟨_, rfl⟩
  have hcl : cc.length = N := by rw [hcc, List.length_set]; exact HN.out.symm
  have HC : Hid (cc = bb.set k z ∧ z = y ^^^ x ∧ bb[k]? = some y ∧ Y = y.toNat ∧ Z = z.toNat ∧ cc.length = N) := Lib.hid ⟨hcc, hz, hy, hY, hZ, hcl⟩
  clear hk hY hz hZ hcc hcl hy hba
  go_wp2_with (at_builtin; refine wpList_append_b _ rfl (.tmp 59) (.tmp 60) bt rfl w4.heap.size (some ⟨w4.heap.size, 0, none⟩) 0 [] rfl (own_empty w4) _ AA _ ac bb rfl HN.out (HOA4.out.rd.below ((Below.refl _ _).alloc (Nat.le_refl _) _) (Nat.le_refl _)) (by have := HN.out; simp; omega) (by simp) ?_; intro A5 c5 L5 w5 hL5 ho5 hg5 hat5; have hb5 : Below w4.heap.size w4 w5 := below_grow ((Below.refl _ _).alloc (Nat.le_refl _) _) hg5 (fun g hg => by simp [blk] at hg; omega) (by simp); rw [List.nil_append] at hL5; rw [hL5] at ho5 ⊢; have HB5 := Lib.hid hb5; clear hat5 hL5 hg5 hb5; obtain ⟨g5, cur5, rfl, hg5b, hg5s, hh5⟩ := ho5.block (by have := HN.out; omega); obtain ⟨gg, off, he, hlt, hc5⟩ := ho5.rd.at_ (k := k) (by have := HN.out; omega); (injection he with he; injection he with he1 he2; subst he1 he2); rw [Nat.zero_add] at hc5; rw [show bb[k]'(by have := HN.out; omega) = y from (by have := HC.out.2.2.1; rw [List.getElem?_eq_getElem (by have := HN.out; omega)] at this; injection this), ← HC.out.2.2.2.1] at hc5; have hf5 : w5.frozen? ⟨g5, k, none⟩ = false := frozen_of_row w5 g5 k _ _ hh5; have HO5 := Lib.hid ho5; have HGB := Lib.hid hg5b; rw [← HN.out]; clear hh5 ho5 hlt hg5b)
  have ho6 : Own (w5.setCell ⟨g5, k, none⟩ (.int .u8 (Z : Int))) w4.heap.size 5 (some ⟨g5, 0, none⟩) c5 cc := by
    have := HO5.out.set k (Z : Int) z (by rw [HC.out.2.2.2.2.1])
    rw [← HC.out.1] at this
    exact this
  have hb6 : Below w4.heap.size w4 (w5.setCell ⟨g5, k, none⟩ (.int .u8 (Z : Int))) := HB5.out.setCell HGB.out _
  obtain ⟨W6, hW6⟩ : ∃ W6, w5.setCell ⟨g5, k, none⟩ (.int .u8 (Z : Int)) = W6 := ⟨_, rfl⟩
  rw [hW6] at ho6 hb6 ⊢
  have HB6 := Lib.hid (HB4.out.trans (hb6.mono HB4.out.size))
  have hl6 : cc.length = N := HC.out.2.2.2.2.2
  have K3 := topen_any (some ⟨g5, 0, none⟩) c5 cc W6 ho6.rd (by omega) ho6.cap ho6.cap_le
  rw [hl6] at K3
  have HK3 := Lib.hid K3
  have HO6 := Lib.hid ho6
  have HL6 := Lib.hid hl6
  have HFIRST : Hid (∀ l' s' t', Tb.Is cc l' s' t' → 0 < k) := Lib.hid (fun l' s' t' hi => by
    rcases Nat.eq_zero_or_pos k with h0 | h0
    · exfalso
      have h1 := HC.out.1
      have h2 := HC.out.2.2.1
      rw [h0] at h1 h2
      rw [h1, HC.out.2.1] at hi
      exact Tb.turned_first HXN.out HIS.out h2 hi
    · exact h0)
  clear K3 ho6 hb6 hW6 hl6 hc5 hf5 hxor hrem HO5 HB5 hx1 HGB cur5
  refine HK3.out.mono ?_
  rintro e w7 ⟨hb7, hh⟩
  have HB7 := Lib.hid (HB6.out.trans (hb7.mono HB6.out.size))
  have ho7 := HO6.out.below hb7
  have K4 := rtopen_any (some ⟨g5, 0, none⟩) c5 cc w7 ho7.rd (by rw [HL6.out]; omega) ho7.cap ho7.cap_le
  rw [HL6.out] at K4
  have HK4 := Lib.hid K4
  clear K4 hb7 ho7
  rcases hh with ⟨rfl, hno⟩ | ⟨R2, g7, s2, t2, rfl, hg7, hcell, hR2, hall2⟩
  · have HNO := Lib.hid hno
    clear hno
    go_wp2_with fail
    refine HK4.out.mono ?_
    rintro e w8 ⟨hb8, ⟨rfl, _⟩ | ⟨R3, A3, c3, s3, t3, he, hrd, hR3, hall3⟩⟩
    · have HB8 := Lib.hid (HB7.out.trans (hb8.mono HB7.out.size))
      clear hb8
      go_wp2_with fail
      go_ret
      exact ⟨by simp, HB8.out⟩
    · exact absurd hR3 (HNO.out _ _ _)
  · have HIS2 := Lib.hid hR2
    have hk0 := HFIRST.out _ _ _ hR2
    clear hR2 hall2 hcell hg7
    go_wp2_with fail
    refine HK4.out.mono ?_
    rintro e w8 ⟨hb8, ⟨_, hno⟩ | ⟨R3, A3, c3, s3, t3, rfl, hrd, hR3, hall3⟩⟩
    · exact absurd HIS2.out (hno _ _ _)
    · have HB8 := Lib.hid (HB7.out.trans (hb8.mono HB7.out.size))
      have hr3 : 1 ≤ R3.length := hR3.unf.l1
      clear hb8 hrd hR3 hall3
      go_wp2_with fail
      go_ret
      exact ⟨by simp, HB8.out⟩
end Go.Proofs.YtgafionfojnieaaDoor
