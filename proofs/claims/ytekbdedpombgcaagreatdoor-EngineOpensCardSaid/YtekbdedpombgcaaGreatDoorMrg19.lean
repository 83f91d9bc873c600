/- Parts of the proof, one behind the other: The contract of the program's Key.; The contract of the reference's Key.; 'awake', 'few', and the walk of the law CodeKeys.; The contract of TakeText; the walk of the law CodeTakes.; TakeText, the program's and the reference's, with more told.; Plain: a frame taken of bytes; it undoes Put.; Plain: an edit as bytes; the edit that any bytes are. -/
import Derived.Test.YtekbdedpombgcaaGreatDoorMrg05
import Derived.Deep.RegionHeld
import Derived.Deep.RegionHeldLaw
import Derived.Test.YtekbdedpombgcaaGreatDoorMrg16
import Derived.Test.YtekbdedpombgcaaGreatDoorMrg15
import Derived.Test.YtekbdedpombgcaaGreatDoorMrg18
namespace Go.Proofs.YtekbdedpombgcaaGreatDoor
open Go.RowKit

def cutT (v : Option (Nat × List UInt8)) : Option (List UInt8 × List UInt8) := match v with
  | none => none
  | some (n, r) => if n ≤ r.length then some (r.take n, r.drop n) else none
theorem ret_takt {A B : Option Addr} {k k' m m' c d : Nat} (hk : k = k') (hm : m = m') : Ending.returned (.tuple #[.slice A k c, .slice B m d, .int .i64 0]) = .returned (.tuple #[.slice A k' c, .slice B m' d, .int .i64 0]) := by rw [hk, hm]
theorem rdB_keep {w w' : World} {A : Option Addr} {l : List UInt8} (h : RdB w w.heap.size A l) (hb : Below w.heap.size w w') : RdB w' w'.heap.size A l ∧ Below w.heap.size w w' := ⟨(h.below hb (Nat.le_refl _)).more hb.size, hb⟩

/-- 'step_append_b' with the destination named. -/
theorem step_append_bd {P : Program} (w : World) {ops : Array Oper} {o : Oper} {a : Act} {K : Act → World → Prop} {Q : Exit → Act → World → Prop} {E : Prop} (hgd : o.guard = none) (d : Option Tmp) (hd : o.dst = d) (s x : Operand) {t e : TypeId} (T : BT P t e)
    (ho : o.op = .call { callee := .builtin .append, args := #[s, x], argTypes := #[t, t] })
    (base : Nat) (A : Option Addr) (c : Nat) (l : List UInt8) (hs : a.eval s = .slice A l.length c) (hown : Own w base e A c l)
    (B : Nat) (A2 : Option Addr) (m c2 : Nat) (l2 : List UInt8) (hx : a.eval x = .slice A2 m c2) (hm : m = l2.length) (hr : RdB w B A2 l2) (hlen : l.length + l2.length ≤ 140737488355328) (hbase : base ≤ w.heap.size)
    (h : ∀ A' c' L w', L = l ++ l2 → Own w' base e A' c' L → w.grownBy w' (blk A) → (blk A' = blk A ∨ blk A' = some w.heap.size) → K (a.put d (.slice A' L.length c')) w') :
    if Region.wanted o (yielded ops a.tmps) = true then Oper.wp P o a w K Q else E := by
  subst hd
  exact step_append_b w hgd s x T ho base A c l hs hown B A2 m c2 l2 hx hm hr hlen hbase h

end Go.Proofs.YtekbdedpombgcaaGreatDoor
namespace Go.Proofs.YtekbdedpombgcaaGreatDoor
open Go.RowKit

theorem results_c3 {P : Program} {fn : Func} {p u v : Tmp} {ty : TypeId} (h : fn.results = #[.cell p ty, .tmp u, .tmp v]) (tmps : Array Value) (w : World) (g : Nat) (t : TypeId) (cs : Array Value) (fr : Nat × Nat) (d : TypeDesc)
    (hp : tmps.getD p undef = .pointer (some ⟨g, 0, none⟩)) (hg : w.heap[g]? = some (.cells cs t fr)) (hu : P.underlying ty = some d) (hd : (match d, hu with | .struct _, _ => true | .array _ _, _ => true | _, _ => false) = true) (hs : (P.info? ty).map (fun x => x.size) = some cs.size) :
    (results fn tmps).run P w = .ok (.tuple #[.agg cs, tmps.getD u undef, tmps.getD v undef]) w := by
  have h1 := results_cell_row (P := P) (fn := { fn with results := #[.cell p ty] }) (p := p) (ty := ty) rfl tmps w g t cs fr d hp hg hu hd hs
  have h2 : ((asAddr (tmps.getD p undef)).run P w).andThen (fun a w1 => (loadVar ty a).run P w1) = .ok (.agg cs) w := by
    simpa [results] using h1
  rw [hp] at h2
  have h3 : (loadVar ty ⟨g, 0, none⟩).run P w = .ok (.agg cs) w := by simpa [asAddr] using h2
  have hp2 := hp
  simp at hp2
  simp [results, h, asAddr, hp2, h3]
end Go.Proofs.YtekbdedpombgcaaGreatDoor
namespace Go.Proofs.YtekbdedpombgcaaGreatDoor
open Go.RowKit

def PartOk (p : Pt) : Prop := p.n < 18446744073709551616 ∧ p.s.size ≤ 35184372088832

theorem below_two {B : Nat} {w w2 w3 w4 : World} {o1 o2 : Obj} (h2 : Below B w w2) (h3 : Below w2.heap.size w2 w3) (hs : B ≤ w2.heap.size) (h4 : Below ((w3.alloc o1).alloc o2).heap.size ((w3.alloc o1).alloc o2) w4) : Below B w w4 := by
  have k := h2.trans (h3.mono hs)
  have hz := Nat.le_trans hs h3.size
  exact ((k.alloc hz o1).alloc (by simp; omega) o2).trans (h4.mono (by simp; omega))
theorem own_two {B : Nat} {e : TypeId} {A : Option Addr} {c : Nat} {l : List UInt8} {w2 w3 w4 : World} {o1 o2 : Obj} (h : Own w2 B e A c l) (h3 : Below w2.heap.size w2 w3) (h4 : Below ((w3.alloc o1).alloc o2).heap.size ((w3.alloc o1).alloc o2) w4) : Own w4 B e A c l :=
  (((h.below h3).alloc o1).alloc o2).below h4
theorem rd_two {A : Option Addr} {l : List UInt8} {w3 : World} (o1 o2 : Obj) (h : RdB w3 w3.heap.size A l) : RdB ((w3.alloc o1).alloc o2) ((w3.alloc o1).alloc o2).heap.size A l :=
  ((h.alloc (Nat.le_refl _) o1).alloc (by simp) o2).more (by simp; omega)
theorem rd_0_255 (w : World) (H : Nat) (hH : w.heap.size = H) : RdB (w.alloc (.cells #[.int .u8 0, .int .u8 255] 5)) (w.alloc (.cells #[.int .u8 0, .int .u8 255] 5)).heap.size (some ⟨H, 0, none⟩) [0, 255] := by
  subst hH
  exact BlkB.rd (l := [0, 255]) (heap_alloc_new _ _)
theorem rd_0_0 (w : World) : RdB (w.alloc (.cells #[.int .u8 0, .int .u8 0] 5)) (w.alloc (.cells #[.int .u8 0, .int .u8 0] 5)).heap.size (some ⟨w.heap.size, 0, none⟩) [0, 0] :=
  BlkB.rd (l := [0, 0]) (heap_alloc_new _ _)

set_option maxHeartbeats 400000 in
set_option maxRecDepth 100000 in
theorem key_any (A : Option Addr) (c : Nat) (l : List Pt) (w : World) (h : RdP w w.heap.size A l) (hok : ∀ p ∈ l, PartOk p) (hll : l.length ≤ 9223372036854775807) (hlen : (Cod.key l).length ≤ 70368744177664) :
    Calls Tryz.prog 187 #[.slice A l.length c] w fun e w' => ∃ A' c', e = .returned (.slice A' (Cod.key l).length c') ∧ Own w' w.heap.size 5 A' c' (Cod.key l) ∧ Below w.heap.size w w' := by
  have HOK := Lib.hid hok; clear hok
  go_enter Tryz.func187, Tryz.ntmps187
  go_wp2
  go_loopw [3, 9] (fun v i wr => ∃ (k : Nat) (A1 : Option Addr) (c1 : Nat) (L : List UInt8), k ≤ l.length ∧ i = .int .i64 (k : Int) ∧ v = .slice A1 L.length c1 ∧ Hid (L = Cod.key (l.take k)) ∧ Own wr w.heap.size 5 A1 c1 L ∧ Below w.heap.size w wr) (fun _ i _ => l.length - (intOf i).toNat)
  case atStart => exact ⟨0, none, 0, [], by omega, rfl, rfl, Lib.hid rfl, Own.nil _ _ _, Below.refl _ _⟩
  case round =>
    obtain ⟨k, A1, c1, L, hk, rfl, rfl, HL, ho, hb⟩ := hrel
    by_cases hlt : k < l.length
    · obtain ⟨b, off, rfl, hbb, q0, q1, q2⟩ := (h.below hb (Nat.le_refl _)).at_ hlt
      have hle := Cod.key_take_le l k hlt
      rw [← HL.out] at hle
      obtain ⟨p, hp⟩ : ∃ p, p = l[k] := ⟨_, rfl⟩
      rw [← hp] at q0 q1 q2 hle
      have hpk := HOK.out p (by rw [hp]; exact List.getElem_mem _)
      have HP := Lib.hid hp; clear hp
      obtain ⟨t, n, s⟩ := p
      simp only at q0 q1 q2
      cases t with
      | true =>
        have e1 : Cod.partKey ⟨true, n, s⟩ = 32 :: (Esc.esc 0 [0, 255] s.data.toList ++ [0, 0]) := rfl
        rw [e1] at hle
        simp only [List.length_cons, List.length_append, List.length_nil] at hle
        have hlb : ∀ g, blk A1 = some g → g < wr.heap.size := fun g hg => (ho.blk_ge g hg).2
        have hgb : ∀ g, blk A1 = some g → w.heap.size ≤ g := fun g hg => (ho.blk_ge g hg).1
        have HLB := Lib.hid hlb; clear hlb
        have HGB := Lib.hid hgb; clear hgb
        have hs1 : s.size ≤ 35184372088832 := hpk.2
        have hbs := hb.size
        go_wp2_with (first
          | (at_builtin; refine wpList_append_b _ rfl (.tmp 15) (.tmp 16) bt rfl w.heap.size A1 c1 L rfl ((ho.alloc _).alloc _) _ (some ⟨wr.heap.size + 1, 0, none⟩) 1 1 [32] rfl rfl (rdB_one (x := 32) (by simp) rfl (by simp)) (by simp; omega) (by simp; omega) ?_; intro A2 c2 L2 w2 hL2 ho2 hg2 hat2; have HL2 := Lib.hid hL2; clear hL2; have hb2 : Below w.heap.size w w2 := below_grow ((hb.alloc hbs _).alloc (by simp; omega) _) hg2 HGB.out (by simp; omega); have x2 : w2.cell? ⟨wr.heap.size, 2, none⟩ = some (.string s) := hg2.cell (by simp) (fun e => absurd (HLB.out _ e.symm) (by simp)); have hz2 : wr.heap.size + 2 ≤ w2.heap.size := by have := hg2.size; simpa using this)
          | (with_reducible refine at_conv ?_; refine wpList_conv_b _ rfl (.tmp 20) bt Tryz.underlying9 rfl s rfl (by omega) ?_; intro cp w3 hcp1 hcp2 hr3 hb3 hz3)
          | (go_at_call 215; refine (replaceAll_n _ _ _ _ _ _ _ s.data.toList [0, 255] 0 _ (by simp) (by first | exact rd_two _ _ hr3 | fail) hcp1 hcp2 (by simp) (by first | exact rd_0_255 _ _ (by simp) | fail) rfl (by omega)).mono ?_; rintro e w4 ⟨A4, c4, rfl, ho4, hb4⟩; have ho24 := own_two ho2 hb3 hb4; have hb34 := below_two hb2 hb3 hb2.size hb4)
          | (at_builtin; refine wpList_append_b _ rfl (.tmp 18) (.tmp 24) bt rfl w.heap.size A2 c2 L2 rfl ho24 _ A4 _ c4 (Esc.esc 0 [0, 255] s.data.toList) rfl rfl ho4.rd (by rw [HL2.out]; simp; omega) hb34.size ?_; intro A5 c5 L5 w5 hL5 ho5 hg5 hat5; have HL5 := Lib.hid hL5; clear hL5; have hb5 : Below w.heap.size w w5 := below_grow hb34 hg5 (fun g hg => (ho24.blk_ge g hg).1) hb34.size)
          | (at_builtin; refine wpList_append_b _ rfl (.tmp 26) (.tmp 27) bt rfl w.heap.size A5 c5 L5 rfl (ho5.alloc _) _ (some ⟨w5.heap.size, 0, none⟩) 2 2 [0, 0] rfl rfl (by first | exact rd_0_0 _ | fail) (by rw [HL5.out, HL2.out]; simp; omega) (Nat.le_trans hb5.size (by simp)) ?_; intro A6 c6 L6 w6 hL6 ho6 hg6 hat6; have HL6 := Lib.hid hL6; clear hL6; have hb6 : Below w.heap.size w w6 := below_grow (hb5.alloc hb5.size _) hg6 (fun g hg => (ho5.blk_ge g hg).1) (Nat.le_trans hb5.size (by simp))))
        go_roundw
        case rel =>
          refine ⟨k + 1, A6, c6, L6, by omega, by go_num, rfl, Lib.hid ?_, ho6, hb6⟩
          rw [HL6.out, HL5.out, HL2.out, HL.out, Cod.key_take_succ l k hlt, ← HP.out, e1]
          simp
        case measure => simp [intOf]; omega
      | false =>
        have hn : n < 18446744073709551616 := hpk.1
        have e1 : Cod.partKey ⟨false, n, s⟩ = UInt8.ofNat (16 + (Cod.be n).length) :: Cod.be n := rfl
        rw [e1] at hle
        simp only [List.length_cons] at hle
        have hW := Cod.be_bits n hn
        have hW8 := Cod.be_len hn
        obtain ⟨W, hWW⟩ : ∃ W, W = (Cod.be n).length := ⟨_, rfl⟩
        rw [← hWW] at hW hW8 hle
        obtain ⟨T, hT⟩ : ∃ T, T = Lib.bitLen n := ⟨_, rfl⟩
        rw [← hT] at hW
        have hT1 : T ≤ 64 := by omega
        have hTW : ((T : Int) + 7) / 8 = (W : Int) := by omega
        have HT := Lib.hid hT; clear hT
        clear hW
        have HWW := Lib.hid hWW; clear hWW
        have hlb : ∀ g, blk A1 = some g → g < wr.heap.size := fun g hg => (ho.blk_ge g hg).2
        have hgb : ∀ g, blk A1 = some g → w.heap.size ≤ g := fun g hg => (ho.blk_ge g hg).1
        have HLB := Lib.hid hlb; clear hlb
        have HGB := Lib.hid hgb; clear hgb
        have hbs := hb.size
        have hbt : ((UInt8.ofNat (16 + W)).toNat : Int) = 16 + ((T : Int) + 7) / 8 := by rw [UInt8.toNat_ofNat']; omega
        have HBT := Lib.hid hbt; clear hbt
        have HTW := Lib.hid hTW; clear hTW
        have hT2 : ((T : Int) + 7) / 8 ≤ 8 := by omega
        go_wp2_with (first
          | (go_at_call 216; refine (Tryz.bits_Len64 _ _ (by omega) (by omega)).mono ?_; rintro e w1 ⟨rfl, hw1⟩; have hw2 := hw1.symm; subst hw2; rw [Int.toNat_natCast, ← HT.out])
          | (at_builtin; refine wpList_append_b _ rfl (.tmp 34) (.tmp 38) bt rfl w.heap.size A1 c1 L rfl ((ho.alloc _).alloc _) _ (some ⟨wr.heap.size + 1, 0, none⟩) 1 1 [UInt8.ofNat (16 + W)] rfl rfl (rdB_one (x := 16 + ((T : Int) + 7) / 8) (by simp) HBT.out (by simp)) (by simp; omega) (by simp; omega) ?_; intro A2 c2 L2 w2 hL2 ho2 hg2 hat2; have HL2 := Lib.hid hL2; clear hL2; have hb2 : Below w.heap.size w w2 := below_grow ((hb.alloc hbs _).alloc (by simp; omega) _) hg2 HGB.out (by simp; omega); have x2 : w2.cell? ⟨wr.heap.size, 1, none⟩ = some (.int .u64 (n : Int)) := hg2.cell (by simp) (fun e => absurd (HLB.out _ e.symm) (by simp)); have hz2 : wr.heap.size + 2 ≤ w2.heap.size := by have := hg2.size; simpa using this))
        have hna2 : ∀ g, blk A2 = some g → g ≠ wr.heap.size := by
          intro g hg
          rcases hat2 with e | e
          · rw [e] at hg; have := HLB.out g hg; omega
          · rw [e] at hg; simp at hg; omega
        have HNA2 := Lib.hid hna2; clear hna2 hat2 hg2
        obtain ⟨g0, hg0⟩ : ∃ g0, g0 = wr.heap.size := ⟨_, rfl⟩
        rw [← hg0] at x2 hz2 HNA2 ⊢
        have HG0 := Lib.hid hg0; clear hg0
        go_loopw [3, 6] (fun v u wi => ∃ (j : Nat) (A3 : Option Addr) (c3 : Nat) (L3 : List UInt8), j ≤ W ∧ u = .int .i64 ((j : Int) - 1) ∧ v = .slice A3 L3.length c3 ∧ Hid (L3 = L2 ++ Cod.beW (W - j) (n / 256 ^ j)) ∧ Own wi w.heap.size 5 A3 c3 L3 ∧ Below w.heap.size w wi ∧
          wi.cell? ⟨g0, 1, none⟩ = some (.int .u64 (n : Int)) ∧ g0 < wi.heap.size ∧ Hid (∀ g, blk A3 = some g → g ≠ g0)) (fun _ u _ => (intOf u + 1).toNat)
        case atStart =>
          refine ⟨W, A2, c2, L2, by omega, by rw [HTW.out], rfl, Lib.hid (by rw [Nat.sub_self]; simp [Cod.beW]), ho2, hb2, x2, by omega, HNA2⟩
        case round =>
          clear ho2 hb2 x2 hz2 HNA2
          obtain ⟨j, A3, c3, L3, hj, rfl, rfl, HL3, ho3, hb3, x3, hz3, HNA3⟩ := hrel
          by_cases hj0 : j = 0
          · subst hj0
            go_wp2
            go_roundw
            case rel =>
              refine ⟨k + 1, A3, c3, L3, by omega, by go_num, rfl, Lib.hid ?_, ho3, hb3⟩
              have e2 : n / 256 ^ 0 = n := by simp
              rw [HL3.out, HL2.out, HL.out, Cod.key_take_succ l k hlt, ← HP.out, e1, e2, Nat.sub_zero, HWW.out, ← Cod.be_self]
              simp
            case measure => simp [intOf]; omega
          · obtain ⟨i, rfl⟩ : ∃ i, j = i + 1 := ⟨j - 1, by omega⟩
            have e0 : ((i + 1 : Nat) : Int) - 1 = (i : Int) := by omega
            rw [e0]
            have hbb : ((UInt8.ofNat (n / 256 ^ i % 256)).toNat : Int) = (n : Int) / 2 ^ (8 * i) % 256 := by
              have e2 : (2 : Nat) ^ (8 * i) = 256 ^ i := by rw [Nat.pow_mul]
              have e3 : ((2 : Int) ^ (8 * i)) = ((2 ^ (8 * i) : Nat) : Int) := by simp
              rw [e3, e2, UInt8.toNat_ofNat', ← Int.natCast_ediv]
              omega
            have HBB := Lib.hid hbb; clear hbb
            have hL3 : L3.length = L.length + 1 + (W - (i + 1)) := by rw [HL3.out, HL2.out]; simp [Cod.beW_length]; omega
            have hL3a : L3.length + 1 ≤ L.length + 1 + W := by omega
            clear hL3
            have hnb3 : w.heap.size ≤ wr.heap.size := hb3.size
            go_wp2_with (at_builtin; refine wpList_append_b _ rfl (.tmp 46) (.tmp 53) bt rfl w.heap.size A3 c3 L3 rfl (ho3.alloc _) _ (some ⟨wr.heap.size, 0, none⟩) 1 1 [UInt8.ofNat (n / 256 ^ i % 256)] rfl rfl (rdB_one (x := (n : Int) / 2 ^ (8 * i) % 256) (by simp) HBB.out (by simp)) (by simp; omega) (by simp; omega) ?_; intro A4 c4 L4 w4 hL4 ho4 hg4 hat4; have HL4 := Lib.hid hL4; clear hL4; have hb4 : Below w.heap.size w w4 := below_grow (hb3.alloc hnb3 _) hg4 (fun g hg => (ho3.blk_ge g hg).1) (by simp; omega); have x4 : w4.cell? ⟨g0, 1, none⟩ = some (.int .u64 (n : Int)) := hg4.cell (by rw [World.cell?_alloc_lt _ _ _ hz3]; exact x3) (fun e => HNA3.out _ e.symm rfl); have hz4 : wr.heap.size + 1 ≤ w4.heap.size := by have := hg4.size; simpa using this)
            go_roundw
            case rel =>
              refine ⟨i, A4, c4, L4, by omega, rfl, rfl, Lib.hid ?_, ho4, hb4, x4, by omega, Lib.hid ?_⟩
              · have e4 : W - i = (W - (i + 1)) + 1 := by omega
                rw [HL4.out, HL3.out, e4, Cod.beW, Nat.div_div_eq_div_mul, ← Nat.pow_succ]
                simp
              · intro g hg
                rcases hat4 with e | e
                · rw [e] at hg; exact HNA3.out g hg
                · rw [e] at hg; simp at hg; omega
            case measure => simp [intOf]
    · obtain rfl : k = l.length := by omega
      go_wp2
      go_ret
      have e : L = Cod.key l := by rw [HL.out, List.take_length]
      exact ⟨A1, c1, ret_slice (by rw [e]), by rw [← e]; exact ho, hb⟩
end Go.Proofs.YtekbdedpombgcaaGreatDoor

namespace Go.Proofs.YtekbdedpombgcaaGreatDoor
open Go.RowKit

end Go.Proofs.YtekbdedpombgcaaGreatDoor

namespace Go.Proofs.YtekbdedpombgcaaGreatDoor
open Go.RowKit

/-- string(b) of these bytes. -/
def StrB (w : World) (A : Option Addr) (n c : Nat) (l : List UInt8) : Prop := (convert 34 9 (.slice A n c)).run Tryz.prog w = .ok (.string ⟨l.toArray⟩) w
theorem strB_of {w : World} {B : Nat} {A : Option Addr} {c : Nat} {l : List UInt8} (h : RdB w B A l) : StrB w A l.length c l := run_string_b w bt Tryz.underlying9 B A _ c l rfl h

end Go.Proofs.YtekbdedpombgcaaGreatDoor

namespace Go.Proofs.YtekbdedpombgcaaGreatDoor
open Go.RowKit

end Go.Proofs.YtekbdedpombgcaaGreatDoor

namespace Go.Proofs.YtekbdedpombgcaaGreatDoor
open Go.RowKit

def TakenS (w : World) (A0 : Option Addr) (v : Option (List UInt8 × List UInt8)) (e : Ending) (w' : World) : Prop :=
  Below w.heap.size w w' ∧ match v with
  | none => e = .returned (.tuple #[.slice none 0 0, .slice none 0 0, .int .i64 3])
  | some (t, r) => ∃ A c B d, e = .returned (.tuple #[.slice A t.length c, .slice B r.length d, .int .i64 0]) ∧ Own w' w.heap.size 5 A c t ∧ RdB w' w'.heap.size B r ∧ r.length ≤ d ∧ d ≤ 9223372036854775807 ∧ Frs w' w.heap.size A0 B
theorem takenS_none {w w' : World} {A0 : Option Addr} {e : Ending} (h : TakenS w A0 none e w') : Below w.heap.size w w' ∧ e = .returned (.tuple #[.slice none 0 0, .slice none 0 0, .int .i64 3]) := h
theorem takenS_some {w w' : World} {A0 : Option Addr} {e : Ending} {t r : List UInt8} (h : TakenS w A0 (some (t, r)) e w') : Below w.heap.size w w' ∧ ∃ A c B d, e = .returned (.tuple #[.slice A t.length c, .slice B r.length d, .int .i64 0]) ∧ Own w' w.heap.size 5 A c t ∧ RdB w' w'.heap.size B r ∧ r.length ≤ d ∧ d ≤ 9223372036854775807 ∧ Frs w' w.heap.size A0 B := h
set_option maxHeartbeats 1000000 in
set_option maxRecDepth 100000 in
theorem textS_part (A : Option Addr) (c n : Nat) (r : List UInt8) (w : World) (hn : n < 18446744073709551616) (h : RdB w w.heap.size A r) (hl : r.length ≤ 140737488355328) (hc : r.length ≤ c) (hcc : c ≤ 9223372036854775807) :
    Calls Tryz.prog 107 #[.int .u64 (n : Int), .slice A r.length c] w (TakenS w A (cutT (some (n, r)))) := by
  by_cases hnr : (r.length : Int) < (n : Int)
  · have e : cutT (some (n, r)) = none := by unfold cutT; simp only; rw [if_neg (by omega)]
    rw [e]
    go_enter Tryz.func107, Tryz.ntmps107
    go_wp2
    refine bodyPost_ret (results_tmp3 rfl _ _ _) rfl ?_
    exact ⟨Below.refl _ _, rfl⟩
  · have e : cutT (some (n, r)) = some (r.take n, r.drop n) := by unfold cutT; simp only; rw [if_pos (by omega)]
    rw [e]
    have ht : RdB w w.heap.size A (r.take n) := h.take (by omega)
    have htl : n = (r.take n).length := by rw [List.length_take]; omega
    have hdl : r.length - n = (r.drop n).length := by simp
    obtain ⟨t, htt⟩ : ∃ t, t = r.take n := ⟨_, rfl⟩
    rw [← htt] at ht htl ⊢
    have htl2 : t.length ≤ 140737488355328 := by omega
    have hn1 : n ≤ r.length := by omega
    have hn2 : n ≤ c := by omega
    have HL := Lib.hid htl2
    have HT := Lib.hid ht
    have HTL := Lib.hid htl
    have HDL := Lib.hid hdl
    have HH := Lib.hid h
    clear ht htl hdl htt e h htl2 hl
    cases A with
    | none =>
      have hr0 : r = [] := by
        cases r with
        | nil => rfl
        | cons b r => obtain ⟨ad, h, _⟩ := HH.out.2 (by simp); cases h
      subst hr0
      have hn0 : n = 0 := by simpa using hn1
      subst hn0
      by_cases hc0 : c = 0
      · subst hc0
        go_enter Tryz.func107, Tryz.ntmps107
        go_wp2
        go_region_held (fun w' => RdB w' w'.heap.size none t ∧ Below w.heap.size w w')
          (first | exact rdB_keep HT.out ((Below.refl _ _).drew) | exact rdB_keep HT.out B3)
          (first
            | (go_at_call 35; refine (clone_cut none 0 0 t _ HTL.out (by go_split_ands; assumption) HL.out).mono ?_; rintro e w3 ⟨A3, c3, rfl, ho3, hb3⟩; have B3 := Below.trans (b := _) (by go_split_ands; assumption : Below w.heap.size w _) (hb3.mono (by go_split_ands; exact Below.size (by assumption))); have O3 := Own.mono ho3 (by go_split_ands; exact Below.size (by assumption) : w.heap.size ≤ _)))
        go_wp2
        refine bodyPost_ret (results_tmp3 rfl _ _ _) rfl ?_
        exact ⟨B3, A3, c3, none, 0, rfl, O3, RdB.nil, by simp, by omega, Frs.nil _ _ _⟩
      · have hc1 : 0 < c := by omega
        go_enter Tryz.func107, Tryz.ntmps107
        go_wp2
        go_region_held (fun w' => RdB w' w'.heap.size none t ∧ Below w.heap.size w w')
          (first | exact rdB_keep HT.out ((Below.refl _ _).drew) | exact rdB_keep HT.out B3)
          (first
            | (go_at_call 35; refine (clone_cut none 0 c t _ HTL.out (by go_split_ands; assumption) HL.out).mono ?_; rintro e w3 ⟨A3, c3, rfl, ho3, hb3⟩; have B3 := Below.trans (b := _) (by go_split_ands; assumption : Below w.heap.size w _) (hb3.mono (by go_split_ands; exact Below.size (by assumption))); have O3 := Own.mono ho3 (by go_split_ands; exact Below.size (by assumption) : w.heap.size ≤ _)))
        go_wp2
        refine bodyPost_ret (results_tmp3 rfl _ _ _) rfl ?_
        exact ⟨B3, A3, c3, none, c, rfl, O3, RdB.nil, by simp, hcc, Frs.nil _ _ _⟩
    | some ad =>
      have q := HH.out.drop (k := n) (cap := c) hn1 hc
      by_cases hcn : c = n
      · subst hcn
        rw [if_pos rfl] at q
        have HQ := Lib.hid q; clear q
        go_enter Tryz.func107, Tryz.ntmps107
        go_wp2
        go_region_held (fun w' => RdB w' w'.heap.size (some ad) t ∧ Below w.heap.size w w')
          (first | exact rdB_keep HT.out ((Below.refl _ _).drew) | exact rdB_keep HT.out B3)
          (first
            | (go_at_call 35; refine (clone_cut (some ad) c c t _ HTL.out (by go_split_ands; assumption) HL.out).mono ?_; rintro e w3 ⟨A3, c3, rfl, ho3, hb3⟩; have B3 := Below.trans (b := _) (by go_split_ands; assumption : Below w.heap.size w _) (hb3.mono (by go_split_ands; exact Below.size (by assumption))); have O3 := Own.mono ho3 (by go_split_ands; exact Below.size (by assumption) : w.heap.size ≤ _)))
        go_wp2
        refine bodyPost_ret (results_tmp3 rfl _ _ _) rfl ?_
        exact ⟨B3, A3, c3, some ad, 0, ret_takt rfl (by have := HDL.out; omega), O3, (HQ.out.below B3 (Nat.le_refl _)).more B3.size, by have := HDL.out; omega, by omega, Frs.self _ _ _⟩
      · have hcn2 : n < c := by omega
        rw [if_neg hcn] at q
        have HQ := Lib.hid q; clear q
        go_enter Tryz.func107, Tryz.ntmps107
        go_wp2
        go_region_held (fun w' => RdB w' w'.heap.size (some ad) t ∧ Below w.heap.size w w')
          (first | exact rdB_keep HT.out ((Below.refl _ _).drew) | exact rdB_keep HT.out B3)
          (first
            | (go_at_call 35; refine (clone_cut (some ad) n c t _ HTL.out (by go_split_ands; assumption) HL.out).mono ?_; rintro e w3 ⟨A3, c3, rfl, ho3, hb3⟩; have B3 := Below.trans (b := _) (by go_split_ands; assumption : Below w.heap.size w _) (hb3.mono (by go_split_ands; exact Below.size (by assumption))); have O3 := Own.mono ho3 (by go_split_ands; exact Below.size (by assumption) : w.heap.size ≤ _)))
        go_wp2
        refine bodyPost_ret (results_tmp3 rfl _ _ _) rfl ?_
        exact ⟨B3, A3, c3, some (ad.add n), c - n, ret_takt rfl HDL.out, O3, (HQ.out.below B3 (Nat.le_refl _)).more B3.size, by have := HDL.out; omega, by omega, (Frs.self _ _ _).add⟩

set_option maxHeartbeats 400000 in
set_option maxRecDepth 100000 in
theorem thenTextS_any (A : Option Addr) (c : Nat) (b : List UInt8) (w : World) (h : RdB w w.heap.size A b) (hl : b.length ≤ 140737488355328) (hc : b.length ≤ c) (hcc : c ≤ 9223372036854775807) :
    Calls Tryz.prog 106 #[.slice A b.length c, .func (.func 39) #[] #[], .func (.func 107) #[] #[]] w (TakenS w A (cutT (Cod.take b))) := by
  have C := takeF_any A c b w h hl hc hcc
  cases hk : Cod.take b with
  | none =>
    rw [hk] at C
    have HC := Lib.hid C; clear C hk
    go_enter Tryz.func106, Tryz.ntmps106
    go_wp2_with fail
    refine HC.out.mono ?_
    intro e w1 hh
    obtain ⟨hb, rfl⟩ := takenF_none hh
    clear hh
    go_wp2_with fail
    refine bodyPost_ret (results_tmp3 rfl _ _ _) rfl ?_
    exact ⟨hb, rfl⟩
  | some v =>
    obtain ⟨n, r⟩ := v
    obtain ⟨hn, hrb⟩ := Cod.take_bound hk
    rw [hk] at C
    have HC := Lib.hid C; clear C hk
    cases hx : cutT (some (n, r)) with
    | none =>
      have HX := Lib.hid hx; clear hx
      go_enter Tryz.func106, Tryz.ntmps106
      go_wp2_with fail
      refine HC.out.mono ?_
      intro e w1 hh
      obtain ⟨hb, A1, c1, rfl, hc1, hcc1, r1, fr1⟩ := takenF_some hh
      clear hh
      go_wp2_with fail
      refine (textS_part A1 c1 n r _ hn r1 (by omega) hc1 hcc1).mono ?_
      rw [HX.out]
      intro e w2 hh
      obtain ⟨hb2, rfl⟩ := takenS_none hh
      clear hh
      go_wp2_with fail
      refine bodyPost_ret (results_tmp3 rfl _ _ _) rfl ?_
      exact ⟨hb.trans (hb2.mono hb.size), rfl⟩
    | some v =>
      obtain ⟨t, u⟩ := v
      have HX := Lib.hid hx; clear hx
      go_enter Tryz.func106, Tryz.ntmps106
      go_wp2_with fail
      refine HC.out.mono ?_
      intro e w1 hh
      obtain ⟨hb, A1, c1, rfl, hc1, hcc1, r1, fr1⟩ := takenF_some hh
      clear hh
      go_wp2_with fail
      refine (textS_part A1 c1 n r _ hn r1 (by omega) hc1 hcc1).mono ?_
      rw [HX.out]
      intro e w2 hh
      obtain ⟨hb2, A2, c2, A3, c3, rfl, t2, u2, v2, x2, y2⟩ := takenS_some hh
      clear hh
      go_wp2_with fail
      refine bodyPost_ret (results_tmp3 rfl _ _ _) rfl ?_
      exact ⟨hb.trans (hb2.mono hb.size), A2, c2, A3, c3, rfl, t2.mono hb.size, u2, v2, x2, fr1.trans y2 hb2 hb.size⟩

set_option maxRecDepth 100000 in
theorem takeTextS_any (A : Option Addr) (c : Nat) (b : List UInt8) (w : World) (h : RdB w w.heap.size A b) (hl : b.length ≤ 140737488355328) (hc : b.length ≤ c) (hcc : c ≤ 9223372036854775807) :
    Calls Tryz.prog 47 #[.slice A b.length c] w (TakenS w A (cutT (Cod.take b))) := by
  have C := thenTextS_any A c b w h hl hc hcc
  cases hx : cutT (Cod.take b) with
  | none =>
    rw [hx] at C
    have HC := Lib.hid C; clear C hx
    go_enter Tryz.func47, Tryz.ntmps47
    go_wp2_with fail
    refine HC.out.mono ?_
    intro e w1 hh
    obtain ⟨hb, rfl⟩ := takenS_none hh
    clear hh
    go_wp2_with fail
    refine bodyPost_ret (results_tmp3 rfl _ _ _) rfl ?_
    exact ⟨hb, rfl⟩
  | some v =>
    obtain ⟨t, u⟩ := v
    rw [hx] at C
    have HC := Lib.hid C; clear C hx
    go_enter Tryz.func47, Tryz.ntmps47
    go_wp2_with fail
    refine HC.out.mono ?_
    intro e w1 hh
    obtain ⟨hb, A2, c2, A3, c3, rfl, t2, u2, v2, x2, y2⟩ := takenS_some hh
    clear hh
    go_wp2_with fail
    refine bodyPost_ret (results_tmp3 rfl _ _ _) rfl ?_
    exact ⟨hb, A2, c2, A3, c3, rfl, t2, u2, v2, x2, y2⟩

end Go.Proofs.YtekbdedpombgcaaGreatDoor

namespace Go.Proofs.YtekbdedpombgcaaGreatDoor
open Go.RowKit

namespace Frm
/-- The number of four bytes, the highest first. -/
def num4 (l : List UInt8) : Nat := l.foldl (fun n c => n * 256 + c.toNat) 0
/-- What bytes begin with: the frame's kind, its bytes, the rest. -/
def take (b : List UInt8) : Option (UInt8 × List UInt8 × List UInt8) := match b with
  | [] => none
  | k :: b' => match cutT (Cod.take b') with
    | none => none
    | some (t, r) => if t.length ≤ 65536 ∧ 4 ≤ r.length ∧ r.take 4 = be4 (Chk.sum (head k t)) then some (k, t, r.drop 4) else none
theorem cutT_text {b t r : List UInt8} (h : cutT (Cod.take b) = some (t, r)) : b = Cod.text t ++ r := by
  unfold cutT at h
  split at h
  · cases h
  · rename_i n r0 hk
    split at h
    · rename_i hn
      injection h with h; injection h with h1 h2
      subst h1 h2
      rw [Cod.take_number hk]
      unfold Cod.text
      have e : (r0.take n).length = n := by rw [List.length_take]; omega
      rw [e, List.append_assoc, List.take_append_drop]
    · cases h
theorem take_num (n : Nat) (h : n < 18446744073709551616) (r : List UInt8) : Cod.take (Cod.number n ++ r) = some (n, r) := Cod.take_of h r
theorem cutT_of (t r : List UInt8) (h : t.length < 18446744073709551616) : cutT (Cod.take (Cod.text t ++ r)) = some (t, r) := by
  unfold Cod.text
  rw [List.append_assoc, take_num _ h]
  unfold cutT
  simp
theorem be4_len (n : Nat) : (be4 n).length = 4 := rfl
theorem take_put (k : UInt8) (t r : List UInt8) (h : t.length ≤ 65536) : take (put k t ++ r) = some (k, t, r) := by
  unfold put
  have e : head k t ++ be4 (Chk.sum (head k t)) ++ r = k :: (Cod.text t ++ (be4 (Chk.sum (head k t)) ++ r)) := by
    rw [List.append_assoc]; rfl
  rw [e, take, cutT_of _ _ (by omega)]
  simp only
  rw [if_pos ⟨h, by simp [be4_len], by rw [List.take_append_of_le_length (by simp [be4_len]), List.take_of_length_le (by simp [be4_len])]⟩]
  rw [List.drop_append_of_le_length (by simp [be4_len]), List.drop_of_length_le (by simp [be4_len])]
  rfl
theorem of_take {b t r : List UInt8} {k : UInt8} (h : take b = some (k, t, r)) : b = put k t ++ r ∧ t.length ≤ 65536 := by
  unfold take at h
  split at h
  · cases h
  · rename_i k' b'
    split at h
    · cases h
    · rename_i t' r' hc
      split at h
      · rename_i hh
        obtain ⟨h1, h2, h3⟩ := hh
        injection h with h; injection h with e1 h; injection h with e2 e3
        subst e1 e2 e3
        refine ⟨?_, h1⟩
        rw [cutT_text hc, put, ← h3, List.append_assoc, List.take_append_drop]
        rfl
      · cases h
theorem num4_be4 (n : Nat) (h : n < 4294967296) : num4 (be4 n) = n := by
  unfold num4 be4
  simp only [List.foldl_cons, List.foldl_nil, UInt8.toNat_ofNat']
  omega
theorem num4_lt (l : List UInt8) : ∀ n : Nat, l.foldl (fun n (c : UInt8) => n * 256 + c.toNat) n < (n + 1) * 256 ^ l.length := by
  induction l with
  | nil => intro n; simp
  | cons c l ih =>
    intro n
    have h1 := ih (n * 256 + c.toNat)
    have h2 := c.toNat_lt
    rw [List.foldl_cons, List.length_cons, Nat.pow_succ]
    refine Nat.lt_of_lt_of_le h1 ?_
    rw [Nat.mul_comm (256 ^ l.length) 256, ← Nat.mul_assoc]
    exact Nat.mul_le_mul_right _ (by omega)
theorem num4_inj {l m : List UInt8} (hl : l.length = 4) (hm : m.length = 4) (h : num4 l = num4 m) : l = m := by
  match l, hl, m, hm with
  | [a, b, c, d], _, [e, f, g, i], _ =>
    unfold num4 at h
    simp only [List.foldl_cons, List.foldl_nil] at h
    have := a.toNat_lt; have := b.toNat_lt; have := c.toNat_lt; have := d.toNat_lt
    have := e.toNat_lt; have := f.toNat_lt; have := g.toNat_lt; have := i.toNat_lt
    have h1 : a.toNat = e.toNat := by omega
    have h2 : b.toNat = f.toNat := by omega
    have h3 : c.toNat = g.toNat := by omega
    have h4 : d.toNat = i.toNat := by omega
    rw [UInt8.toNat_inj.1 h1, UInt8.toNat_inj.1 h2, UInt8.toNat_inj.1 h3, UInt8.toNat_inj.1 h4]
theorem sum_iff (r h : List UInt8) (hr : 4 ≤ r.length) : r.take 4 = be4 (Chk.sum h) ↔ Chk.sum h = num4 (r.take 4) := by
  have hs : Chk.sum h < 2147483647 := Chk.sum_lt _
  constructor
  · intro e; rw [e, num4_be4 _ (by omega)]
  · intro e; exact num4_inj (by rw [List.length_take]; omega) rfl (by rw [num4_be4 _ (by omega), e])
theorem num4_snoc (l : List UInt8) (c : UInt8) : num4 (l ++ [c]) = num4 l * 256 + c.toNat := by unfold num4; simp [List.foldl_append]
end Frm
end Go.Proofs.YtekbdedpombgcaaGreatDoor

namespace Go.Proofs.YtekbdedpombgcaaGreatDoor
namespace Ver
def numI (n : Int) : List UInt8 := Cod.number n.toNat
def encF (f : Fi) : List UInt8 := numI f.number ++ numI f.level ++ Cod.text f.first ++ Cod.text f.last ++ numI f.low ++ numI f.high
def enc (e : Ed) : List UInt8 := numI e.add.length ++ e.add.flatMap encF ++ numI e.drop.length ++ e.drop.flatMap numI ++ numI e.log ++ numI e.next
section
variable {a c m M n k : Nat} {b r : List UInt8}
theorem okE_bd {e : Ed} (h : okE e = true) : (e.add.length ≤ 50 ∧ e.drop.length ≤ 50 ∧ 0 ≤ e.log ∧ e.log ≤ 1099511627776 ∧ 0 ≤ e.next ∧ e.next ≤ 1099511627776) ∧ (∀ f ∈ e.add, okF f = true) ∧ (∀ n ∈ e.drop, okN n = true) := by
  unfold okE at h
  rw [Bool.and_eq_true, Bool.and_eq_true, decide_eq_true_eq, List.all_eq_true, List.all_eq_true] at h
  exact ⟨h.1, h.2.1, h.2.2⟩
end
end Ver
end Go.Proofs.YtekbdedpombgcaaGreatDoor
