/- Parts of the proof, one behind the other: The contract of block's number.; The contract of block's split (written by a program).; Plain: a pair taken of a block's bytes.; The contract of the closure that block's pairs hands back.; The contract of slices.Equal at ints.; The contract of block.Parse.; Plain: the record of a pair.; Plain: what a table's bytes are, frame by frame.; Plain: what is known while a table's bytes are read.; The contract of table.record (written by a program).; The reference's Same and SameAll, at records that are the same.; The contract of the reference's Scan. -/
import Derived.Test.YtgafionfojnieaaGreatDoorMrg36
import Derived.Deep.QuietTactic
import Derived.BigQuiet
import Derived.Laws.BitsAllLaws
namespace Go.Proofs.YtgafionfojnieaaGreatDoor
open Go.RowKit
open Lib (hid)
theorem i64_or_nat (a b : Nat) (ha : a < 9223372036854775808) (hb : b < 9223372036854775808) : bits .or .i64 (a : Int) (b : Int) = ((a ||| b : Nat) : Int) := by
 have hx : a ||| b < 2 ^ 63 := Nat.or_lt_two_pow (by omega) (by omega)
 show IntKind.i64.wrap ((BitVec.ofInt 64 (a : Int) ||| BitVec.ofInt 64 (b : Int)).toNat : Int) = _
 rw [BitVec.toNat_or, ofInt_u64 a (by omega), ofInt_u64 b (by omega), IntKind.wrap_i64]
 omega
theorem i64_join (s P M h : Nat) (hP : P = 2 ^ s) (hM : M < P) (h1 : h * P < 9223372036854775808) (h2 : M < 9223372036854775808) (x y z : Int) (hx : x = ((h * P : Nat) : Int)) (hy : y = (M : Int)) (hz : z = ((h * P + M : Nat) : Int)) : bits .or .i64 x y = z := by
 subst hP hx hy hz
 rw [i64_or_nat _ _ h1 h2, ← Nat.shiftLeft_eq, ← Nat.shiftLeft_add_eq_or_of_lt hM]
theorem w_mul (x P : Nat) (h : x * P < 9223372036854775808) (z : Int) (hz : z = ((x * P : Nat) : Int)) : IntKind.i64.wrap z = z := by
 subst hz; rw [IntKind.wrap_i64]; omega
set_option maxHeartbeats 1000000 in
set_option maxRecDepth 100000 in
theorem bnum_any (A : Option Addr) (c : Nat) (b : List UInt8) (w : World) (h : RdB w w.heap.size A b) (hl : 4 ≤ b.length) (hl2 : b.length ≤ 140737488355328) :
   Calls Tryz.prog 92 #[.slice A b.length c] w fun e w' => e = .returned (.int .i64 (Frm.num4 (b.take 4) : Int)) ∧ Below w.heap.size w w' := by
 match b, hl with
 | b0 :: b1 :: b2 :: b3 :: bs, _ =>
   obtain ⟨g, off, rfl, _, c0⟩ := h.at_ (k := 0) (by simp)
   obtain ⟨g1, off1, e1, _, c1⟩ := h.at_ (k := 1) (by simp)
   obtain ⟨g2, off2, e2, _, c2⟩ := h.at_ (k := 2) (by simp)
   obtain ⟨g3, off3, e3, _, c3⟩ := h.at_ (k := 3) (by simp)
   injection e1 with e1; injection e1 with e1 f1; subst e1 f1
   injection e2 with e2; injection e2 with e2 f2; subst e2 f2
   injection e3 with e3; injection e3 with e3 f3; subst e3 f3
   simp only [List.getElem_cons_zero, List.getElem_cons_succ, Nat.add_zero] at c0 c1 c2 c3
   have hn : Frm.num4 ((b0 :: b1 :: b2 :: b3 :: bs).take 4) = ((b0.toNat * 256 + b1.toNat) * 256 + b2.toNat) * 256 + b3.toNat := by simp [Frm.num4]
   rw [hn]
   have l0 := b0.toNat_lt
   have l1 := b1.toNat_lt
   have l2 := b2.toNat_lt
   have l3 := b3.toNat_lt
   obtain ⟨x0, hx0⟩ : ∃ x, x = b0.toNat := ⟨_, rfl⟩
   obtain ⟨x1, hx1⟩ : ∃ x, x = b1.toNat := ⟨_, rfl⟩
   obtain ⟨x2, hx2⟩ : ∃ x, x = b2.toNat := ⟨_, rfl⟩
   obtain ⟨x3, hx3⟩ : ∃ x, x = b3.toNat := ⟨_, rfl⟩
   rw [← hx0] at c0 l0
   rw [← hx1] at c1 l1
   rw [← hx2] at c2 l2
   rw [← hx3] at c3 l3
   rw [← hx0, ← hx1, ← hx2, ← hx3]
   clear hx0 hx1 hx2 hx3 hn h
   obtain ⟨n, hnn⟩ : ∃ n, n = (b0 :: b1 :: b2 :: b3 :: bs).length := ⟨_, rfl⟩
   have hn4 : (4 : Int) ≤ (n : Int) := by rw [hnn]; simp only [List.length_cons]; omega
   rw [← hnn] at hl2 ⊢
   clear hnn
   have k1 : bits .or .i64 ((x0 : Int) * 16777216) ((x1 : Int) * 65536) = (x0 : Int) * 16777216 + (x1 : Int) * 65536 :=
     i64_join 24 16777216 (x1 * 65536) x0 rfl (by omega) (by omega) (by omega) _ _ _ (by omega) (by omega) (by omega)
   have k2 : bits .or .i64 ((x0 : Int) * 16777216 + (x1 : Int) * 65536) ((x2 : Int) * 256) = (x0 : Int) * 16777216 + (x1 : Int) * 65536 + (x2 : Int) * 256 :=
     i64_join 16 65536 (x2 * 256) (x0 * 256 + x1) rfl (by omega) (by omega) (by omega) _ _ _ (by omega) (by omega) (by omega)
   have k3 : bits .or .i64 ((x0 : Int) * 16777216 + (x1 : Int) * 65536 + (x2 : Int) * 256) (x3 : Int) = ((((x0 * 256 + x1) * 256 + x2) * 256 + x3 : Nat) : Int) :=
     i64_join 8 256 x3 ((x0 * 256 + x1) * 256 + x2) rfl (by omega) (by omega) (by omega) _ _ _ (by omega) (by omega) (by omega)
   have s0 : IntKind.i64.wrap ((x0 : Int) * 16777216) = (x0 : Int) * 16777216 := w_mul x0 16777216 (by omega) _ (by omega)
   have s1 : IntKind.i64.wrap ((x1 : Int) * 65536) = (x1 : Int) * 65536 := w_mul x1 65536 (by omega) _ (by omega)
   have s2 : IntKind.i64.wrap ((x2 : Int) * 256) = (x2 : Int) * 256 := w_mul x2 256 (by omega) _ (by omega)
   have i1 : (1 : Int) < (n : Int) := by omega
   have i2 : (2 : Int) < (n : Int) := by omega
   have i3 : (3 : Int) < (n : Int) := by omega
   have i0 : (0 : Int) < (n : Int) := by omega
   have HK3 := hid k3
   obtain ⟨V, hV⟩ : ∃ V : Int, V = ((((x0 * 256 + x1) * 256 + x2) * 256 + x3 : Nat) : Int) := ⟨_, rfl⟩
   rw [← hV] at k3 ⊢
   clear hV HK3
   go_enter Tryz.func92, Tryz.ntmps92
   go_wp2_with fail
   go_quiet (fail)
   refine drewN_any ?_
   intro X hbX _
   go_wp2_with fail
   go_ret
   exact ⟨rfl, hbX⟩
namespace Blk
def headAt (b : List UInt8) (i : Nat) : Nat := Frm.num4 ((b.drop (b.length - 5 - 4 * (many b - i))).take 4)
def headsOf (b : List UInt8) (k : Nat) : List Nat := (List.range k).map (headAt b)
theorem headsOf_succ (b : List UInt8) (k : Nat) : headsOf b (k + 1) = headsOf b k ++ [headAt b k] := by simp [headsOf, List.range_succ]
theorem hb_at (H : List Nat) (i : Nat) (hi : i < H.length) : ((hb H).drop (4 * i)).take 4 = Frm.be4 H[i] := by
 induction H generalizing i with
 | nil => simp at hi
 | cons a H ih =>
   have e : hb (a :: H) = Frm.be4 a ++ hb H := by simp [hb]
   rw [e]
   cases i with
   | zero => simp [Frm.be4]
   | succ i =>
     have e2 : 4 * (i + 1) = (Frm.be4 a).length + 4 * i := by simp [Frm.be4]; omega
     rw [e2, List.drop_append, List.drop_eq_nil_of_le (by omega), List.nil_append, show (Frm.be4 a).length + 4 * i - (Frm.be4 a).length = 4 * i by omega]
     exact ih i (by simpa using hi)
theorem hds_lt (E : Nat) : ∀ (l : List Pr) (i o : Nat) (last : List UInt8), ∀ x ∈ hds E i o last l, x ≤ o + (ents E i last l).length := by
 intro l
 induction l with
 | nil => intro i o last x hx; simp [hds] at hx
 | cons p l ih =>
   intro i o last x hx
   unfold hds at hx
   rw [List.mem_append] at hx
   rw [ents, List.length_append]
   rcases hx with hx | hx
   · split at hx
     · simp only [List.mem_singleton] at hx; omega
     · cases hx
   · have := ih _ _ _ x hx; omega
theorem heads_wf {b : List UInt8} {l : List Pr} (h : WFb b l) (hb' : b.length ≤ 4000000000) : headsOf b (many b) = hds 16 0 0 [] l := by
 obtain ⟨h1, h2, _, h4, h5, h6⟩ := tail_of h
 obtain ⟨H, hH⟩ : ∃ H, H = hds 16 0 0 [] l := ⟨_, rfl⟩
 obtain ⟨M, hM⟩ : ∃ M, M = many b := ⟨_, rfl⟩
 rw [← hH] at h2 h6 ⊢
 rw [← hM] at h2 h4 h5 h6 ⊢
 apply List.ext_getElem
 · simp [headsOf, h2]
 · intro i hi1 hi2
   have hiM : i < M := by omega
   have hx : H[i] < 4294967296 := by
     have := hds_lt 16 l 0 0 [] H[i] (by rw [← hH]; exact List.getElem_mem hi2)
     have h7 := congrArg List.length h5
     rw [List.length_take] at h7
     omega
   simp only [headsOf, List.getElem_map, List.getElem_range, headAt]
   rw [← hM]
   have e1 : (b.drop (b.length - 5 - 4 * (M - i))).take 4 = Frm.be4 H[i] := by
     rw [← hb_at H i hi2, ← h6, List.drop_take, List.drop_drop, List.take_take]
     congr 1
     · omega
     · congr 1; omega
   rw [e1, Frm.num4_be4 _ hx]
end Blk
def Nc (n : Nat) : List Value := [.int .i64 (n : Int)]
theorem intT : RT Tryz.prog 128 3 Nc 1 8 (.int .i64 0) :=
 ⟨Tryz.underlying128, by kernel_rfl, fun _ => rfl, fun a u hu => by simp [Nc] at hu; subst hu; rfl, by omega, rfl⟩
theorem rd_int_new (w : World) (n : Nat) : RdS Nc 1 (w.alloc (.cells #[.int .i64 (n : Int)] 3)) (w.heap.size + 1) (some ⟨w.heap.size, 0, none⟩) [n] := by
 refine RdS.of (f := Nc) (n := 1) (l := [n]) (fun _ => rfl) _ 0 (by omega) (fun k hk j u hj => ?_)
 obtain rfl : k = 0 := by simp at hk; exact hk
 have hj' : (Nc n)[j]? = some u := hj
 rw [cell_of_row _ w.heap.size _ _ _ (0, 0) (heap_alloc_new w _)]
 simpa [Nc] using hj'
theorem results_cb2 {P : Program} {fn : Func} {p u : Tmp} {ty : TypeId} (h : fn.results = #[.cell p ty, .tmp u]) (tmps : Array Value) (w : World) (g : Nat) (t : TypeId) (cs : Array Value) (fr : Nat × Nat) (d : TypeDesc)
   (hp : tmps.getD p undef = .pointer (some ⟨g, 0, none⟩)) (hg : w.heap[g]? = some (.cells cs t fr)) (hu : P.underlying ty = some d) (hd : (match d, hu with | .struct _, _ => true | .array _ _, _ => true | _, _ => false) = true) (hs : (P.info? ty).map (fun x => x.size) = some cs.size) :
   (results fn tmps).run P w = .ok (.tuple #[.agg cs, tmps.getD u undef]) w := by
 have h1 := results_cell_row (P := P) (fn := { fn with results := #[.cell p ty] }) (p := p) (ty := ty) rfl tmps w g t cs fr d hp hg hu hd hs
 have h2 : ((asAddr (tmps.getD p undef)).run P w).andThen (fun a w1 => (loadVar ty a).run P w1) = .ok (.agg cs) w := by
   simpa [results] using h1
 rw [hp] at h2
 have h3 : (loadVar ty ⟨g, 0, none⟩).run P w = .ok (.agg cs) w := by simpa [asAddr] using h2
 have hp2 := hp
 simp at hp2
 simp [results, h, asAddr, hp2, h3]
theorem block_size : (Tryz.prog.info? 130).map (fun x => x.size) = some 3 := by kernel_rfl
def SplitP (w : World) (A : Option Addr) (c : Nat) (b : List UInt8) (e : Ending) (w' : World) : Prop := Below w.heap.size w w' ∧
 ((e = .returned (.tuple #[.agg #[.slice none 0 0, .slice none 0 0, .int .i64 0], .bool false]) ∧ ∀ l0, ¬ Blk.WFb b l0) ∨
  (∃ (HA : Option Addr) (HC ev : Nat), e = .returned (.tuple #[.agg #[.slice A (b.length - 5 - 4 * Blk.many b) c, .slice HA (Blk.headsOf b (Blk.many b)).length HC, .int .i64 (ev : Int)], .bool true]) ∧ 5 + 4 * Blk.many b ≤ b.length ∧
    OwnS Nc 1 w' w.heap.size 3 HA HC (Blk.headsOf b (Blk.many b)) ∧ 1 ≤ ev ∧ ev ≤ 64 ∧ ∀ l0, Blk.WFb b l0 → ev = 16))
theorem split_no {w w' : World} {A : Option Addr} {c : Nat} {b : List UInt8} (hb : Below w.heap.size w w') (h : ∀ l0, ¬ Blk.WFb b l0) : SplitP w A c b (.returned (.tuple #[.agg #[.slice none 0 0, .slice none 0 0, .int .i64 0], .bool false])) w' := ⟨hb, .inl ⟨rfl, h⟩⟩
theorem heap_setD {w : World} {p : Addr} {k : Nat} (v : Value) (h : k ≠ p.block) : (w.setCell p v).heap[k]? = w.heap[k]? := Below.heap_setCell w p v k h
theorem heap_set3a {w : World} {g : Nat} {x y z a : Value} {T : TypeId} (h : w.heap[g]? = some (.cells #[x, y, z] T)) : (w.setCell ⟨g, 0, none⟩ a).heap[g]? = some (.cells #[a, y, z] T) := by
 have h1 := heap_setCell_same w g 0 _ T a h
 simpa using h1
theorem heap_set3b {w : World} {g : Nat} {x y z a : Value} {T : TypeId} (h : w.heap[g]? = some (.cells #[x, y, z] T)) : (w.setCell ⟨g, 1, none⟩ a).heap[g]? = some (.cells #[x, a, z] T) := by
 have h1 := heap_setCell_same w g 1 _ T a h
 simpa using h1
structure SpI (w : World) (b : List UInt8) (H : Nat) (A : Option Addr) (Z c ev k : Nat) (HA : Option Addr) (HC : Nat) (wr : World) : Prop where
 res : wr.heap[H]? = some (.cells #[.slice none 0 0, .slice none 0 0, .int .i64 0] 130)
 out : wr.heap[H + 1]? = some (.cells #[.slice A Z c, .slice HA k HC, .int .i64 (ev : Int)] 130)
 own : OwnS Nc 1 wr w.heap.size 3 HA HC (Blk.headsOf b k)
 below : Below w.heap.size w wr
 size : H + 2 ≤ wr.heap.size
theorem bnum_cut (A : Option Addr) (n c : Nat) (b : List UInt8) (w : World) (hn : n = b.length) (h : RdB w w.heap.size A b) (hl : 4 ≤ b.length) (hl2 : b.length ≤ 140737488355328) :
   Calls Tryz.prog 92 #[.slice A n c] w fun e w' => e = .returned (.int .i64 (Frm.num4 (b.take 4) : Int)) ∧ Below w.heap.size w w' := by subst hn; exact bnum_any A c b w h hl hl2
set_option maxHeartbeats 4000000 in
set_option maxRecDepth 100000 in
theorem split_any (A : Option Addr) (c : Nat) (b : List UInt8) (w : World) (h : RdB w w.heap.size A b) (hl : b.length ≤ 65536) (hc : b.length ≤ c) (hcc : c ≤ 9223372036854775807) :
   Calls Tryz.prog 57 #[.slice A b.length c] w (SplitP w A c b) := by
 by_cases h5 : (b.length : Int) < 5
 · have HG := hid (split_no (A := A) (c := c) (b := b) ((Below.refl w.heap.size w).alloc (Nat.le_refl _) (.cells #[.slice none 0 0, .slice none 0 0, .int .i64 0] 130)) (Blk.WFb.small (by omega)))
   go_enter Tryz.func57, Tryz.ntmps57
   go_wp2_with fail
   refine bodyPost_ret (results_cb2 rfl _ _ w.heap.size 130 #[.slice none 0 0, .slice none 0 0, .int .i64 0] _ _ rfl (heap_alloc_new _ _) Tryz.underlying130 rfl block_size) rfl ?_
   exact HG.out
 obtain ⟨N, hN⟩ : ∃ N, b.length = N + 5 := ⟨b.length - 5, by omega⟩
 have HH := hid h
 have HN := hid hN
 obtain ⟨g, off, rfl, hab, hcl⟩ := h.at_ (k := N + 4) (by omega)
 obtain ⟨ev, hev⟩ : ∃ ev, ev = (b[N + 4]'(by omega)).toNat := ⟨_, rfl⟩
 rw [← hev] at hcl
 have hev2 : ev < 256 := by rw [hev]; exact UInt8.toNat_lt _
 have HE16 : Hid (∀ l0, Blk.WFb b l0 → ev = 16) := hid (fun l0 hw => by
   have h1 := (Blk.tail_of hw).2.2.1
   rw [hN, show N + 5 - 1 = N + 4 by omega, List.getElem?_eq_getElem (by omega)] at h1
   injection h1 with h1
   rw [hev, h1]; rfl)
 have hcut := h.cut (k := N) (c := c) (by omega) (by omega)
 rw [if_neg (by omega)] at hcut
 have HCUT := hid hcut
 rw [hN] at hl hc
 have hlen : (b.length : Nat) = N + 5 := hN
 rw [hlen]
 have h5' : ¬ ((N : Int) + 5 < 5) := by omega
 have hcN : (N : Int) < (c : Int) := by omega
 clear h hN hev h5 hcut hlen
 go_enter Tryz.func57, Tryz.ntmps57
 go_wp2_with fail
 obtain ⟨W2, hW2⟩ : ∃ W2, W2 = (w.alloc (.cells #[.slice none 0 0, .slice none 0 0, .int .i64 0] 130)).alloc (.cells #[.slice none 0 0, .slice none 0 0, .int .i64 (ev : Int)] 130) := ⟨_, rfl⟩
 have hb2 : Below w.heap.size w W2 := by rw [hW2]; exact below_al2 _ _ _
 have hz2 : W2.heap.size = w.heap.size + 2 := by rw [hW2]; simp
 have y0 : W2.heap[w.heap.size]? = some (.cells #[.slice none 0 0, .slice none 0 0, .int .i64 0] 130) := by
   rw [hW2, heap_alloc_old _ _ (by simp)]; exact heap_alloc_new w _
 have y1 : W2.heap[w.heap.size + 1]? = some (.cells #[.slice none 0 0, .slice none 0 0, .int .i64 (ev : Int)] 130) := by
   rw [hW2]
   have := heap_alloc_new (w.alloc (.cells #[.slice none 0 0, .slice none 0 0, .int .i64 0] 130)) (.cells #[.slice none 0 0, .slice none 0 0, .int .i64 (ev : Int)] 130)
   simpa using this
 rw [← hW2]
 refine (bnum_cut _ _ _ (b.drop N) W2 (by rw [List.length_drop, HN.out]; omega) ((HCUT.out.below hb2 (Nat.le_refl _)).more hb2.size) (by rw [List.length_drop, HN.out]; omega) (by rw [List.length_drop, HN.out]; omega)).mono ?_
 rintro e w1 ⟨rfl, hb1⟩
 obtain ⟨M, hM⟩ : ∃ M, M = Frm.num4 ((b.drop N).take 4) := ⟨_, rfl⟩
 have hMm : M = Blk.many b := by rw [hM]; unfold Blk.many; rw [HN.out]; rfl
 have hMl : M < 4294967296 := by
   have h1 := Frm.num4_lt ((b.drop N).take 4) 0
   rw [hM]
   unfold Frm.num4
   have h2 : ((b.drop N).take 4).length = 4 := by rw [List.length_take, List.length_drop, HN.out]; omega
   rw [h2] at h1
   have h4 : (256 : Nat) ^ 4 = 4294967296 := by decide
   omega
 rw [← hM]
 have hcw0 := (hb1.block _ (by omega)).trans y0
 have hcw1 := (hb1.block _ (by omega)).trans y1
 have HCW0 := hid hcw0
 have HCW1 := hid hcw1
 have HBW := hid (hb2.trans (hb1.mono hb2.size))
 have HZ1 : Hid (w.heap.size + 2 ≤ w1.heap.size) := hid (by have := hb1.size; omega)
 have HMM := hid hMm
 have q0 := cell_of_row w1 w.heap.size 0 _ _ (0, 0) hcw0
 have q1 := cell_of_row w1 w.heap.size 1 _ _ (0, 0) hcw0
 have q2 := cell_of_row w1 w.heap.size 2 _ _ (0, 0) hcw0
 have f0 := frozen_of_row w1 w.heap.size 0 _ _ hcw0
 have f1 := frozen_of_row w1 w.heap.size 1 _ _ hcw0
 have f2 := frozen_of_row w1 w.heap.size 2 _ _ hcw0
 have r0 := cell_of_row w1 (w.heap.size + 1) 0 _ _ (0, 0) hcw1
 have r1 := cell_of_row w1 (w.heap.size + 1) 1 _ _ (0, 0) hcw1
 have r2 := cell_of_row w1 (w.heap.size + 1) 2 _ _ (0, 0) hcw1
 have p0 := frozen_of_row w1 (w.heap.size + 1) 0 _ _ hcw1
 simp only [List.getElem?_toArray, List.getElem?_cons_zero, List.getElem?_cons_succ] at q0 q1 q2 r0 r1 r2
 clear hM hMm hb1 hb2 hz2 y0 y1 hcw0 hcw1 hW2 HCUT
 by_cases hmu : ((N / 4 : Nat) : Int) < (M : Int)
 · have HG : Hid (∀ l0, ¬ Blk.WFb b l0) := hid (Blk.WFb.much (by rw [HN.out, ← HMM.out]; omega))
   have hmu2 : (N : Int) / 4 < (M : Int) := by omega
   clear hmu
   go_wp2_with fail
   refine bodyPost_ret (results_cb2 rfl _ _ w.heap.size 130 #[.slice none 0 0, .slice none 0 0, .int .i64 0] _ _ rfl (heap_set3 HCW0.out) Tryz.underlying130 rfl block_size) rfl ?_
   exact split_no (((HBW.out.setCell (by simp) _).setCell (by simp) _).setCell (by simp) _) HG.out
 have hmu2 : ¬ ((N : Int) / 4 < (M : Int)) := by omega
 have h4M : 4 * M ≤ N := by omega
 clear hmu
 by_cases hev1 : (ev : Int) < 1
 · have HG : Hid (∀ l0, ¬ Blk.WFb b l0) := hid (fun l0 hw => by have := HE16.out l0 hw; omega)
   go_wp2_with fail
   refine bodyPost_ret (results_cb2 rfl _ _ w.heap.size 130 #[.slice none 0 0, .slice none 0 0, .int .i64 0] _ _ rfl (heap_set3 HCW0.out) Tryz.underlying130 rfl block_size) rfl ?_
   exact split_no (((HBW.out.setCell (by simp) _).setCell (by simp) _).setCell (by simp) _) HG.out
 by_cases hev3 : 64 < (ev : Int)
 · have HG : Hid (∀ l0, ¬ Blk.WFb b l0) := hid (fun l0 hw => by have := HE16.out l0 hw; omega)
   go_wp2_with fail
   refine bodyPost_ret (results_cb2 rfl _ _ w.heap.size 130 #[.slice none 0 0, .slice none 0 0, .int .i64 0] _ _ rfl (heap_set3 HCW0.out) Tryz.underlying130 rfl block_size) rfl ?_
   exact split_no (((HBW.out.setCell (by simp) _).setCell (by simp) _).setCell (by simp) _) HG.out
 obtain ⟨Z, hZ⟩ : ∃ Z, Z = N - 4 * M := ⟨_, rfl⟩
 have hz1 : IntKind.i64.wrap (4 * (M : Int)) = 4 * (M : Int) := by rw [IntKind.wrap_i64]; omega
 have hz2 : (N : Int) - 4 * (M : Int) = (Z : Int) := by omega
 have hZc : (Z : Int) ≤ (c : Int) := by omega
 have hZ0 : (0 : Int) ≤ (Z : Int) := by omega
 have HZ : Hid (Z = b.length - 5 - 4 * Blk.many b) := hid (by rw [← HMM.out, HN.out, hZ]; rfl)
 clear hZ
 go_wp2_with fail
 obtain ⟨wa, hwa⟩ : ∃ wa, wa = w1.setCell ⟨w.heap.size + 1, 0, none⟩ (.slice (some ⟨g, off, none⟩) Z c) := ⟨_, rfl⟩
 rw [← hwa]
 have HA0 : Hid (SpI w b w.heap.size (some ⟨g, off, none⟩) Z c ev 0 none 0 wa) := hid (by
   rw [hwa]
   exact ⟨by rw [heap_setD _ (by simp)]; exact HCW0.out, heap_set3a HCW1.out, OwnS.nil _ _ _, HBW.out.setCell (by simp) _, by simp; exact HZ1.out⟩)
 clear q0 q1 q2 f0 f1 f2 r0 r1 r2 p0 hwa
 go_loopw [52] (fun i wr => ∃ (k : Nat) (HA : Option Addr) (HC : Nat), k ≤ M ∧ i = .int .i64 (k : Int) ∧ Hid (SpI w b w.heap.size (some ⟨g, off, none⟩) Z c ev k HA HC wr)) (fun i _ => M - (intOf i).toNat)
 case atStart => exact ⟨0, none, 0, by omega, rfl, HA0⟩
 case round =>
   obtain ⟨k, HA, HC, hk, rfl, HI⟩ := hrel
   by_cases hkM : k < M
   · obtain ⟨D, hD⟩ : ∃ D, D = M - k := ⟨_, rfl⟩
     obtain ⟨X0, hX0⟩ : ∃ X0, X0 = N - 4 * D := ⟨_, rfl⟩
     have hD0 : (M : Int) - (k : Int) = (D : Int) := by omega
     have hD1 : IntKind.i64.wrap (4 * (D : Int)) = 4 * (D : Int) := by rw [IntKind.wrap_i64]; omega
     have hD2 : (N : Int) - 4 * (D : Int) = (X0 : Int) := by omega
     have hX1 : (0 : Int) ≤ (X0 : Int) := by omega
     have hW1 : IntKind.i64.wrap (D : Int) = (D : Int) := by rw [IntKind.wrap_i64]; omega
     have hW2 : IntKind.i64.wrap (X0 : Int) = (X0 : Int) := by rw [IntKind.wrap_i64]; omega
     have hX2 : (X0 : Int) ≤ (N : Int) + 5 := by omega
     have hX3 : (X0 : Int) < (c : Int) := by omega
     have hX4 : ¬ (c = X0) := by omega
     have hcut := HH.out.cut (k := X0) (c := c) (by rw [HN.out]; omega) (by rw [HN.out]; omega)
     rw [if_neg (by omega)] at hcut
     obtain ⟨hd, hhd⟩ : ∃ hd, hd = Blk.headAt b k := ⟨_, rfl⟩
     have hhe : Frm.num4 ((b.drop X0).take 4) = hd := by rw [hhd]; unfold Blk.headAt; rw [← HMM.out, HN.out, hX0, hD]; rfl
     have KN : Hid (∀ w', Below wr.heap.size wr w' → Calls Tryz.prog 92 #[.slice (some ⟨g, off + X0, none⟩) (N + 5 - X0) (c - X0)] w' fun e w'' => e = .returned (.int .i64 (hd : Int)) ∧ Below w'.heap.size w' w'') := hid (fun w' hb => by
       rw [← hhe]
       have hbb := HI.out.below.trans (hb.mono HI.out.below.size)
       exact bnum_cut _ _ _ (b.drop X0) w' (by rw [List.length_drop, HN.out]) ((hcut.below hbb (Nat.le_refl _)).more hbb.size) (by rw [List.length_drop, HN.out]; omega) (by rw [List.length_drop, HN.out]; omega))
     have HHD := hid hhd
     have hln : (Blk.headsOf b k).length = k := by simp [Blk.headsOf]
     have hgt : w.heap.size + 1 < wr.heap.size := by have := HI.out.size; omega
     have HHN := hid hln
     have hsw := HI.out.below.size
     clear hD hX0 hcut hhd hhe hln
     go_wp2_with fail
     refine wp_region_E 14 (fun w' => w'.cell? ⟨w.heap.size + 1, 1, none⟩ = some (.slice HA k HC)) (by kernel_rfl) ?_
     have HSB : Hid (∀ Y, Below wr.heap.size wr Y → Y.cell? ⟨w.heap.size + 1, 1, none⟩ = some (.slice HA k HC)) := hid (fun Y hb => by
       rw [cell_of_row Y (w.heap.size + 1) 1 _ _ (0, 0) ((hb.block _ hgt).trans HI.out.out)]; rfl)
     obtain ⟨X, hX⟩ : ∃ X, wr.drew = X := ⟨_, rfl⟩
     have hbX : Below wr.heap.size wr X := by rw [← hX]; exact (Below.refl _ _).drew
     have HS0 : X.cell? ⟨w.heap.size + 1, 1, none⟩ = some (.slice HA k HC) := HSB.out X hbX
     have HBX := hid hbX
     rw [hX]
     clear hX hbX
     refine wpAnyE_take (i := 0) (v := ?v0) rfl (by kernel_rfl) (by kernel_rfl) (by kernel_rfl) (by kernel_rfl) (fun _ _ _ h => h) (Or.inl ⟨by rfl, ?y0⟩) HS0 ?r0
     case y0 => (intro wy hSw; go_simp; try with_reducible rfl)
     try simp only [Act.put, List.setIfInBounds_toArray]
     refine wpAnyE_take (i := 1) (v := ?v1) rfl (by kernel_rfl) (by kernel_rfl) (by kernel_rfl) (by kernel_rfl) (fun _ _ _ h => h) (Or.inl ⟨by rfl, ?y1⟩) HS0 ?r1
     case y1 => (intro wy hSw; go_simp; try with_reducible rfl)
     try simp only [Act.put]
     refine wpAnyE_take (i := 2) (v := ?v2) rfl (by kernel_rfl) (by kernel_rfl) (by kernel_rfl) (by kernel_rfl) (fun _ _ _ h => h) (Or.inl ⟨by rfl, ?y2⟩) HS0 ?r2
     case y2 => (intro wy hSw; go_simp; try with_reducible rfl)
     try simp only [Act.put]
     refine wpAnyE_take (i := 3) (v := ?v3) rfl (by kernel_rfl) (by kernel_rfl) (by kernel_rfl) (by kernel_rfl) (fun _ _ _ h => h) (Or.inl ⟨by rfl, ?y3⟩) HS0 ?r3
     case y3 => (intro wy hSw; go_simp; try with_reducible rfl)
     try simp only [Act.put]
     refine wpAnyE_take (i := 4) (v := ?v4) rfl (by kernel_rfl) (by kernel_rfl) (by kernel_rfl) (by kernel_rfl) (fun _ _ _ h => h) (Or.inl ⟨by rfl, ?y4⟩) HS0 ?r4
     case y4 => (intro wy hSw; go_simp; try with_reducible rfl)
     try simp only [Act.put]
     refine wpAnyE_take (i := 5) (v := ?v5) rfl (by kernel_rfl) (by kernel_rfl) (by kernel_rfl) (by kernel_rfl) (fun _ _ _ h => h) (Or.inl ⟨by rfl, ?y5⟩) HS0 ?r5
     case y5 => (intro wy hSw; go_simp; try with_reducible rfl)
     try simp only [Act.put]
     refine wpAnyE_take (i := 6) (v := ?v6) rfl (by kernel_rfl) (by kernel_rfl) (by kernel_rfl) (by kernel_rfl) (fun _ _ _ h => h) (Or.inl ⟨by rfl, ?y6⟩) HS0 ?r6
     case y6 => (intro wy hSw; go_simp; try with_reducible rfl)
     try simp only [Act.put]
     refine wpAnyE_take (i := 7) (v := ?v7) rfl (by kernel_rfl) (by kernel_rfl) (by kernel_rfl) (by kernel_rfl) (fun _ _ _ h => h) (Or.inl ⟨by rfl, ?y7⟩) HS0 ?r7
     case y7 => (intro wy hSw; go_simp; try with_reducible rfl)
     try simp only [Act.put]
     refine wpAnyE_take (i := 8) (v := ?v8) rfl (by kernel_rfl) (by kernel_rfl) (by kernel_rfl) (by kernel_rfl) (fun _ _ _ h => h) (Or.inl ⟨by rfl, ?y8⟩) HS0 ?r8
     case y8 => (intro wy hSw; go_simp; try with_reducible rfl)
     try simp only [Act.put]
     refine wpAnyE_take (i := 9) (v := ?v9) rfl (by kernel_rfl) (by kernel_rfl) (by kernel_rfl) (by kernel_rfl) (fun _ _ _ h => h) (Or.inl ⟨by rfl, ?y9⟩) HS0 ?r9
     case y9 => (intro wy hSw; go_simp; try with_reducible rfl)
     try simp only [Act.put]
     refine wpAnyE_one (i := 10) (by kernel_rfl) rfl (fun K hK => ?_)
     go_simp
     refine (KN.out X HBX.out).mono ?_
     rintro e w5 ⟨rfl, hb5⟩
     have HB5 := hid (HBX.out.trans (hb5.mono HBX.out.size))
     refine hK _ _ (HSB.out _ HB5.out) ?_
     clear hb5
     try simp only [Act.put]
     refine wpAnyE_one (i := 11) (by kernel_rfl) rfl (fun K hK => ?_)
     go_simp
     have HBY : Hid (Below wr.heap.size wr (w5.alloc (.cells #[.int .i64 (hd : Int)] 3))) := hid (HB5.out.alloc HB5.out.size _)
     refine hK _ _ (HSB.out _ HBY.out) ?_
     try simp only [Act.put]
     have hwz := HB5.out.size
     have HOY := hid (HI.out.own.below HBY.out)
     refine wpAnyE_one (i := 12) (by kernel_rfl) rfl (fun K hK => ?_)
     refine step_append_sd _ (by rfl) (some 67) (by rfl) (.tmp 56) (.tmp 66) intT (by rfl) w.heap.size HA HC (Blk.headsOf b k) (by rw [HHN.out]; rfl) HOY.out (w5.heap.size + 1) (some ⟨w5.heap.size, 0, none⟩) 1 1 [hd] rfl rfl (rd_int_new w5 hd) (by rw [HHN.out]; simp; omega) (by rw [HHN.out]; unfold maxLen; simp; omega) (by simp; omega) ?_
     intro A6 c6 L w6 hL ho6 hg6 hat6
     have hne : some (w.heap.size + 1) ≠ blk HA := fun e => by
       obtain ⟨_, cs, fr, h1⟩ := ownS_tag HI.out.own e.symm
       exact tag_ne2 h1 HI.out.out (by decide) rfl
     have hne0 : some w.heap.size ≠ blk HA := fun e => by
       obtain ⟨_, cs, fr, h1⟩ := ownS_tag HI.out.own e.symm
       exact tag_ne2 h1 HI.out.res (by decide) rfl
     have hbx6 := (hg6.block _ (by simp; omega) hne).trans ((HBY.out.block _ hgt).trans HI.out.out)
     have hbx0 := (hg6.block _ (by simp; omega) hne0).trans ((HBY.out.block _ (by omega)).trans HI.out.res)
     have hS6 : w6.cell? ⟨w.heap.size + 1, 1, none⟩ = some (.slice HA k HC) := by rw [cell_of_row w6 (w.heap.size + 1) 1 _ _ (0, 0) hbx6]; rfl
     have fz6 : w6.frozen? ⟨w.heap.size + 1, 1, none⟩ = false := frozen_of_row w6 (w.heap.size + 1) 1 _ _ hbx6
     have hLn : L.length = k + 1 := by rw [hL, List.length_append, HHN.out]; rfl
     rw [hLn]
     have hL2 : L = Blk.headsOf b (k + 1) := by rw [hL, Blk.headsOf_succ, HHD.out]
     have hset : ∀ g, blk A6 = some g → (w6.setCell ⟨w.heap.size + 1, 1, none⟩ (.slice A6 (k + 1) c6)).heap[g]? = w6.heap[g]? := fun g hg => by
       obtain ⟨_, cs, fr, h1⟩ := ownS_tag ho6 hg
       exact heap_setD _ (tag_ne2 h1 hbx6 (by decide))
     have HI6 : Hid (SpI w b w.heap.size (some ⟨g, off, none⟩) Z c ev (k + 1) A6 c6 (w6.setCell ⟨w.heap.size + 1, 1, none⟩ (.slice A6 (k + 1) c6))) := hid
       ⟨by rw [heap_setD _ (by simp)]; exact hbx0, heap_set3b hbx6, by rw [← hL2]; exact ho6.keep hset, ((HI.out.below.trans (HBY.out.mono hsw)).grown hg6 (by simp; omega) (fun g hg => (HI.out.own.blk_ge g hg).1)).setCell (by simp) _, by simp; have := hg6.size; simp at this; omega⟩
     refine hK _ _ hS6 ?_
     clear hL ho6 hg6 hat6 hbx6 hbx0 hLn hL2 hset hne hne0 HOY HBY HB5 HBX HSB KN HI
     try simp only [Act.put]
     refine wpAnyE_one (i := 13) (by kernel_rfl) rfl (fun K hK => ?_)
     go_simp
     refine hK _ _ hS6 ?_
     try simp only [Act.put]
     refine wpAnyE_last (by kernel_rfl) (by kernel_rfl) rfl (fun K hK => ?_)
     go_simp
     refine hK _ _ ?_
     go_wp2_with fail
     go_roundw
     case rel => exact ⟨k + 1, A6, c6, by omega, by go_num, HI6⟩
     case measure => simp [intOf]; omega
   · have hke : k = M := by omega
     subst hke
     have q0 := cell_of_row wr w.heap.size 0 _ _ (0, 0) HI.out.res
     have q1 := cell_of_row wr w.heap.size 1 _ _ (0, 0) HI.out.res
     have q2 := cell_of_row wr w.heap.size 2 _ _ (0, 0) HI.out.res
     have f0 := frozen_of_row wr w.heap.size 0 _ _ HI.out.res
     have f1 := frozen_of_row wr w.heap.size 1 _ _ HI.out.res
     have f2 := frozen_of_row wr w.heap.size 2 _ _ HI.out.res
     have r0 := cell_of_row wr (w.heap.size + 1) 0 _ _ (0, 0) HI.out.out
     have r1 := cell_of_row wr (w.heap.size + 1) 1 _ _ (0, 0) HI.out.out
     have r2 := cell_of_row wr (w.heap.size + 1) 2 _ _ (0, 0) HI.out.out
     simp only [List.getElem?_toArray, List.getElem?_cons_zero, List.getElem?_cons_succ] at q0 q1 q2 r0 r1 r2
     go_wp2_with fail
     refine bodyPost_ret (results_cb2 rfl _ _ w.heap.size 130 #[.slice (some ⟨g, off, none⟩) Z c, .slice HA k HC, .int .i64 (ev : Int)] _ _ rfl (heap_set3 HI.out.res) Tryz.underlying130 rfl block_size) rfl ?_
     have hset : ∀ x, blk HA = some x → (((wr.setCell ⟨w.heap.size, 0, none⟩ (.slice (some ⟨g, off, none⟩) Z c)).setCell ⟨w.heap.size, 1, none⟩ (.slice HA k HC)).setCell ⟨w.heap.size, 2, none⟩ (.int .i64 (ev : Int))).heap[x]? = wr.heap[x]? := fun x hx => by
       obtain ⟨_, cs, fr, h1⟩ := ownS_tag HI.out.own hx
       have hne := tag_ne2 h1 HI.out.res (by decide)
       rw [heap_setD _ (by simpa using hne), heap_setD _ (by simpa using hne), heap_setD _ (by simpa using hne)]
     refine ⟨((HI.out.below.setCell (by simp) _).setCell (by simp) _).setCell (by simp) _, .inr ⟨HA, HC, ev, ?_, ?_, ?_, by omega, by omega, HE16.out⟩⟩
     · rw [← HZ.out, ← HMM.out, show (Blk.headsOf b k).length = k by simp [Blk.headsOf]]; rfl
     · rw [← HMM.out, HN.out]; omega
     · rw [← HMM.out]; exact HI.out.own.keep hset
namespace Blk
def nextP (head : Bool) (last r : List UInt8) : Option (Pr × List UInt8) := match Cod.take r with
 | none => none
 | some (n, R1) => if last.length < n ∨ (head = true ∧ 0 < n) then none else match cutT (Cod.take R1) with
   | none => none
   | some (k, R2) => match cutT (Cod.take R2) with
     | none => none
     | some (v, R3) => if head = false ∧ (Lib.compareBytes (last.take n ++ k) last ≤ 0 ∨ common (last.take n ++ k) last ≠ n) then none else some (⟨last.take n ++ k, v⟩, R3)
section
variable {head : Bool} {last r R1 R2 R3 k v : List UInt8} {n : Nat}
theorem nextP_no1 (h : Cod.take r = none) : nextP head last r = none := by unfold nextP; simp only [h]
theorem nextP_no2 (h : Cod.take r = some (n, R1)) (hn : last.length < n) : nextP head last r = none := by unfold nextP; simp only [h]; rw [if_pos (.inl hn)]
theorem nextP_no2t (h : Cod.take r = some (n, R1)) (hn : 0 < n) : nextP true last r = none := by unfold nextP; simp only [h]; rw [if_pos (.inr (by simpa using hn))]
theorem np_neg (hn : n ≤ last.length) (hh : head = true → n = 0) : ¬ (last.length < n ∨ (head = true ∧ 0 < n)) := by
 rintro (h | ⟨h1, h2⟩)
 · omega
 · have := hh h1; omega
theorem nextP_no3 (h : Cod.take r = some (n, R1)) (hn : n ≤ last.length) (hh : head = true → n = 0) (h2 : cutT (Cod.take R1) = none) : nextP head last r = none := by
 unfold nextP; simp only [h]; rw [if_neg (np_neg hn hh)]; simp only [h2]
theorem nextP_no4 (h : Cod.take r = some (n, R1)) (hn : n ≤ last.length) (hh : head = true → n = 0) (h2 : cutT (Cod.take R1) = some (k, R2)) (h3 : cutT (Cod.take R2) = none) : nextP head last r = none := by
 unfold nextP; simp only [h]; rw [if_neg (np_neg hn hh)]; simp only [h2, h3]
theorem nextP_no5 (h : Cod.take r = some (n, R1)) (hn : n ≤ last.length) (hh : head = true → n = 0) (h2 : cutT (Cod.take R1) = some (k, R2)) (h3 : cutT (Cod.take R2) = some (v, R3)) (h4 : head = false) (h5 : Lib.compareBytes (last.take n ++ k) last ≤ 0 ∨ common (last.take n ++ k) last ≠ n) : nextP head last r = none := by
 unfold nextP; simp only [h]; rw [if_neg (np_neg hn hh)]; simp only [h2, h3]; rw [if_pos ⟨h4, h5⟩]
theorem nextP_yes (h : Cod.take r = some (n, R1)) (hn : n ≤ last.length) (hh : head = true → n = 0) (h2 : cutT (Cod.take R1) = some (k, R2)) (h3 : cutT (Cod.take R2) = some (v, R3)) (h5 : head = false → ¬ (Lib.compareBytes (last.take n ++ k) last ≤ 0 ∨ common (last.take n ++ k) last ≠ n)) : nextP head last r = some (⟨last.take n ++ k, v⟩, R3) := by
 unfold nextP; simp only [h]; rw [if_neg (np_neg hn hh)]; simp only [h2, h3]; rw [if_neg (fun h => h5 h.1 h.2)]
end
theorem common_comm (a b : List UInt8) : common a b = common b a := by
 induction a generalizing b with
 | nil => cases b <;> rfl
 | cons x a ih =>
   cases b with
   | nil => rfl
   | cons y b =>
     unfold common
     by_cases h : x = y
     · rw [if_pos h, if_pos h.symm, ih]
     · rw [if_neg h, if_neg (fun e => h e.symm)]
def lastK (o : List Pr) : List UInt8 := (o.getLast?.map Pr.k).getD []
theorem lastK_snoc (o : List Pr) (p : Pr) : lastK (o ++ [p]) = p.k := by simp [lastK]
theorem srt_at {o l2 : List Pr} {p : Pr} (h : srt (o ++ p :: l2) = true) (ho : 0 < o.length) : Op.bytesLess (lastK o) p.k = true := by
 have h1 := (srt_iff _).1 h o.length (by simp) ho (by simp)
 have e1 : (o ++ p :: l2)[o.length]'(by simp) = p := by simp
 have e2 : (o ++ p :: l2)[o.length - 1]'(by simp; omega) = o[o.length - 1]'(by omega) := by
   rw [List.getElem_append_left]
 have e3 : lastK o = (o[o.length - 1]'(by omega)).k := by
   unfold lastK
   rw [List.getLast?_eq_getElem?, List.getElem?_eq_getElem (by omega)]
   rfl
 rw [e1, e2] at h1
 rw [e3]; exact h1
theorem WRel.nextP {b last rest : List UInt8} {o : List Pr} (h : WRel b o last rest) (hr : rest ≠ []) (hb : last.length < 18446744073709551616) (hk : lastK o = last) {l0 : List Pr} (hw : WFb b l0) :
   ∃ p l2, l0 = o ++ p :: l2 ∧ Blk.nextP (o.length % 16 == 0) last rest = some (p, ents 16 (o.length + 1) p.k l2) := by
 obtain ⟨p, l2, R1, R2, e, a1, a2, a3, a4, a5⟩ := h.next hr hb hw
 refine ⟨p, l2, e, ?_⟩
 unfold Blk.nextP
 simp only [a1]
 rw [if_neg]
 · simp only [a2, a3]
   rw [if_neg]
   · rw [a4]
   · rintro ⟨h1, h2⟩
     have h0 : ¬ o.length % 16 = 0 := by simpa using h1
     have ho : 0 < o.length := by
       rcases Nat.eq_zero_or_pos o.length with h3 | h3
       · rw [h3] at h0; simp at h0
       · exact h3
     have hs := srt_at (e ▸ hw.few.2) ho
     rw [a4] at h2
     rcases h2 with h2 | h2
     · rw [hk] at hs
       have h4 := (compareBytes_le p.k last).1 h2
       rw [hs] at h4; cases h4
     · apply h2
       unfold cn
       rw [if_neg h0, common_comm]
 · rintro (h1 | ⟨h1, h2⟩)
   · omega
   · have h0 : o.length % 16 = 0 := by simpa using h1
     unfold cn at h2
     rw [if_pos h0] at h2
     omega
theorem WRel.stepP {b last rest R3 : List UInt8} {o : List Pr} {p : Pr} (h : WRel b o last rest) (hr : rest ≠ []) (hb : last.length < 18446744073709551616) (hk : lastK o = last) (hn : Blk.nextP (o.length % 16 == 0) last rest = some (p, R3)) : WRel b (o ++ [p]) p.k R3 := fun l0 hw => by
 obtain ⟨p', l2, e, e2⟩ := h.nextP hr hb hk hw
 rw [hn] at e2
 injection e2 with e2
 injection e2 with e3 e4
 subst e3
 exact ⟨l2, by rw [e]; simp, by rw [e4]; simp⟩
theorem WRel.noP {b last rest : List UInt8} {o : List Pr} (h : WRel b o last rest) (hr : rest ≠ []) (hb : last.length < 18446744073709551616) (hk : lastK o = last) (hn : Blk.nextP (o.length % 16 == 0) last rest = none) (l0 : List Pr) : ¬ WFb b l0 := fun hw => by
 obtain ⟨p', l2, e, e2⟩ := h.nextP hr hb hk hw
 rw [hn] at e2; cases e2
theorem nextP_len {head : Bool} {last r R3 : List UInt8} {p : Pr} (h : nextP head last r = some (p, R3)) : R3.length + 3 ≤ r.length ∧ p.k.length + R3.length ≤ last.length + r.length ∧ p.v.length + R3.length ≤ r.length := by
 unfold nextP at h
 split at h
 · cases h
 · rename_i n R1 h1
   split at h
   · cases h
   · split at h
     · cases h
     · rename_i k R2 h2
       split at h
       · cases h
       · rename_i v R3' h3
         split at h
         · cases h
         · injection h with h
           injection h with h4 h5
           subst h4 h5
           have e1 := Cod.take_number h1
           have e2 := Frm.cutT_text h2
           have e3 := Frm.cutT_text h3
           have l1 := congrArg List.length e1
           have l2 := congrArg List.length e2
           have l3 := congrArg List.length e3
           simp only [List.length_append, Cod.text, Cod.number] at l1 l2 l3
           simp only [List.length_append, List.length_take, List.length_cons, List.length_nil] at l1 l2 l3 ⊢
           omega
end Blk
theorem pairs_any (A : Option Addr) (n c : Nat) (w : World) :
   Calls Tryz.prog 58 #[.slice A n c] w fun e w' => e = .returned (.func (.func 93) #[] #[.pointer (some ⟨w.heap.size, 0, none⟩), .pointer (some ⟨w.heap.size + 1, 0, none⟩)]) ∧ w' = (w.alloc (.cells #[.slice A n c] 22)).alloc (.cells #[.slice none 0 0] 22) := by
 go_enter Tryz.func58, Tryz.ntmps58
 go_wp2_with fail
 go_ret
 exact ⟨rfl, rfl⟩
theorem pair2_size : (Tryz.prog.info? 77).map (fun x => x.size) = some 2 := by kernel_rfl
structure NextOk (w : World) (base gb gl : Nat) (p : Pr) (R3 : List UInt8) (q : Pv) (B3 : Option Addr) (d3 : Nat) (LA : Option Addr) (LC : Nat) (w' : World) : Prop where
 bx : w'.heap[gb]? = some (.cells #[.slice B3 R3.length d3] 22)
 lx : w'.heap[gl]? = some (.cells #[.slice LA p.k.length LC] 22)
 pr : q.pr = p
 key : Own w' w.heap.size 5 q.kA q.kc q.k
 val : Own w' w.heap.size 5 q.vA q.vc q.v
 last : Own w' w.heap.size 5 LA LC p.k
 rest : HBs w' base B3 R3
 cap : R3.length ≤ d3 ∧ d3 ≤ 9223372036854775807
 size : w.heap.size ≤ w'.heap.size
 keep : ∀ k, k < w.heap.size → k ≠ gb → k ≠ gl → w'.heap[k]? = w.heap[k]?
 below : Below base w w'
def NextP (w : World) (base gb gl : Nat) (v : Option (Pr × List UInt8)) (e : Ending) (w' : World) : Prop := match v with
 | none => ∃ x : Int, x ≠ 0 ∧ e = .returned (.tuple #[.agg #[.slice none 0 0, .slice none 0 0], .slice none 0 0, .int .i64 x]) ∧ Below w.heap.size w w'
 | some (p, R3) => ∃ q B3 d3 LA LC, e = .returned (.tuple #[.agg #[.slice q.kA q.k.length q.kc, .slice q.vA q.v.length q.vc], .slice B3 R3.length d3, .int .i64 0]) ∧ NextOk w base gb gl p R3 q B3 d3 LA LC w'
theorem concat_two (A1 A2 : Option Addr) (n c1 c2 : Nat) (l1 l2 : List UInt8) (w : World) (hn : n = l1.length) (h1 : RdB w w.heap.size A1 l1) (h2 : RdB w w.heap.size A2 l2) (hl : l1.length + l2.length ≤ 70368744177664) :
   Calls Tryz.prog 83 #[.slice (some ⟨w.heap.size, 0, none⟩) 2 2] (w.alloc (.cells #[.slice A1 n c1, .slice A2 l2.length c2] 22)) (GivesB (w.alloc (.cells #[.slice A1 n c1, .slice A2 l2.length c2] 22)) (l1 ++ l2)) := by
 subst hn
 have K := concat_any (some ⟨w.heap.size, 0, none⟩) 2 [⟨A1, c1, l1⟩, ⟨A2, c2, l2⟩] (w.alloc (.cells #[.slice A1 l1.length c1, .slice A2 l2.length c2] 22)) ⟨RdS.of (f := Bs.cells) (n := 1) (fun _ => rfl) w.heap.size 0 (by simp) (fun j hj i u hu => by
   match j, hj, i, hu with
   | 0, _, 0, hu => simp [Bs.cells] at hu; subst hu; simp
   | 1, _, 0, hu => simp [Bs.cells] at hu; subst hu; simp
   | 0, _, i + 1, hu => simp [Bs.cells] at hu
   | 1, _, i + 1, hu => simp [Bs.cells] at hu), fun p hp => by
     simp only [List.mem_cons, List.not_mem_nil, or_false] at hp
     rcases hp with rfl | rfl
     · exact (h1.alloc (Nat.le_refl _) _).more (by simp)
     · exact (h2.alloc (Nat.le_refl _) _).more (by simp)⟩ (by simp) (by simp [cat]; exact hl)
 simpa [cat] using K
theorem own_set_tag {w : World} {base c g o : Nat} {cs : Array Value} {T : TypeId} {fr : Nat × Nat} {A : Option Addr} {l : List UInt8} {u : Value} (h : Own w base 5 A c l) (hb : w.heap[g]? = some (.cells cs T fr)) (hT : T ≠ 5) : Own (w.setCell ⟨g, o, none⟩ u) base 5 A c l :=
 own_keep2 h (fun x hx => by
   obtain ⟨_, cs', fr', h1⟩ := own_tag h hx
   exact heap_setD _ (tag_ne2 h1 hb (fun e => hT e.symm)))
theorem HBs.set_tag {w : World} {base g o : Nat} {cs : Array Value} {T : TypeId} {fr : Nat × Nat} {B : Option Addr} {r : List UInt8} {u : Value} (h : HBs w base B r) (hb : w.heap[g]? = some (.cells cs T fr)) (hT : T ≠ 5) (hg : base ≤ g) : HBs (w.setCell ⟨g, o, none⟩ u) base B r := h.keep (by simp) (fun hne x hx _ => by
 refine heap_setD _ (fun e => ?_)
 have e' : x = g := e
 subst e'
 rcases h.at_ hne x hx with h1 | ⟨cs', fr', h1⟩
 · omega
 · exact tag_ne2 h1 hb (fun e => hT e.symm) rfl)
theorem nextOk_mk {w wk w7 : World} {base gb gl c4 c3 d3 c7 : Nat} {X v R3 : List UInt8} {A4 A3 B3 A7 : Option Addr} {x y z u a1 a2 : Value} (hB : Below w.heap.size w wk) (hcw : wk.heap[w.heap.size]? = some (.cells #[x, y] 77)) (hbx : wk.heap[gb]? = some (.cells #[z] 22)) (hlx : wk.heap[gl]? = some (.cells #[u] 22))
   (hne : gb ≠ gl) (hgb : base ≤ gb) (hgl : base ≤ gl) (hgb2 : gb < w.heap.size) (hgl2 : gl < w.heap.size) (hX : Own wk w.heap.size 5 A4 c4 X) (hV : Own wk w.heap.size 5 A3 c3 v) (hR : HBs wk base B3 R3) (hcap : R3.length ≤ d3 ∧ d3 ≤ 9223372036854775807)
   (h7 : Own w7 ((wk.setCell ⟨gl, 0, none⟩ (.slice A4 X.length c4)).setCell ⟨gb, 0, none⟩ (.slice B3 R3.length d3)).heap.size 5 A7 c7 X) (hb7 : Below ((wk.setCell ⟨gl, 0, none⟩ (.slice A4 X.length c4)).setCell ⟨gb, 0, none⟩ (.slice B3 R3.length d3)).heap.size ((wk.setCell ⟨gl, 0, none⟩ (.slice A4 X.length c4)).setCell ⟨gb, 0, none⟩ (.slice B3 R3.length d3)) w7) :
   NextOk w base gb gl ⟨X, v⟩ R3 ⟨A7, c7, X, A3, c3, v⟩ B3 d3 A4 c4 ((w7.setCell ⟨w.heap.size, 0, none⟩ a1).setCell ⟨w.heap.size, 1, none⟩ a2) := by
 obtain ⟨w6, hw6⟩ : ∃ w6, w6 = (wk.setCell ⟨gl, 0, none⟩ (.slice A4 X.length c4)).setCell ⟨gb, 0, none⟩ (.slice B3 R3.length d3) := ⟨_, rfl⟩
 rw [← hw6] at h7 hb7
 have hH : w.heap.size < wk.heap.size := (Array.getElem?_eq_some_iff.1 hcw).1
 have hz6 : w6.heap.size = wk.heap.size := by rw [hw6]; simp
 have k6 : ∀ k, k ≠ gb → k ≠ gl → w6.heap[k]? = wk.heap[k]? := fun k h1 h2 => by rw [hw6, heap_setD _ h1, heap_setD _ h2]
 have hbx' : (wk.setCell ⟨gl, 0, none⟩ (.slice A4 X.length c4)).heap[gb]? = some (.cells #[z] 22) := (heap_setD _ hne).trans hbx
 have x6 : w6.heap[gb]? = some (.cells #[.slice B3 R3.length d3] 22) := by rw [hw6]; exact box_set hbx' _
 have y6 : w6.heap[gl]? = some (.cells #[.slice A4 X.length c4] 22) := by rw [hw6, heap_setD _ (fun e => hne e.symm)]; exact box_set hlx _
 have d25 : 22 ≠ 5 := by decide
 have o6 : ∀ {A : Option Addr} {c : Nat} {l : List UInt8}, Own wk w.heap.size 5 A c l → Own w6 w.heap.size 5 A c l := fun h => by
   rw [hw6]; exact own_set_tag (own_set_tag h hlx d25) hbx' d25
 have r6 : HBs w6 base B3 R3 := by rw [hw6]; exact (hR.set_tag hlx d25 hgl).set_tag hbx' d25 hgb
 have c6 : w6.heap[w.heap.size]? = some (.cells #[x, y] 77) := (k6 _ (by omega) (by omega)).trans hcw
 have c7' := (hb7.block _ (by omega)).trans c6
 have dP : 77 ≠ 5 := by decide
 have c7b : (w7.setCell ⟨w.heap.size, 0, none⟩ a1).heap[w.heap.size]? = some (.cells #[a1, y] 77) := by
   have h1 := heap_setCell_same w7 w.heap.size 0 _ 77 a1 c7'
   simpa using h1
 have o8 : ∀ {A : Option Addr} {c : Nat} {l : List UInt8} {B : Nat}, Own w7 B 5 A c l → Own ((w7.setCell ⟨w.heap.size, 0, none⟩ a1).setCell ⟨w.heap.size, 1, none⟩ a2) B 5 A c l := fun h => own_set_tag (own_set_tag h c7' dP) c7b dP
 have hz7 := hb7.size
 refine ⟨?_, ?_, rfl, (o8 h7).mono (by omega), o8 ((o6 hV).below hb7), o8 ((o6 hX).below hb7), ((r6.below hb7).set_tag c7' dP (by omega)).set_tag c7b dP (by omega), hcap, by simp; omega, fun k hk h1 h2 => ?_, ?_⟩
 · rw [heap_setD _ (by simp; omega), heap_setD _ (by simp; omega)]; exact (hb7.block _ (by omega)).trans x6
 · rw [heap_setD _ (by simp; omega), heap_setD _ (by simp; omega)]; exact (hb7.block _ (by omega)).trans y6
 · rw [heap_setD _ (by simp; omega), heap_setD _ (by simp; omega), hb7.block _ (by omega), k6 k h1 h2]
   exact hB.block k hk
 · have b6 : Below base w w6 := by rw [hw6]; exact ((hB.mono (by omega)).setCell (by simpa using hgl) _).setCell (by simpa using hgb) _
   exact ((b6.trans (hb7.mono (by omega))).setCell (by simp; omega) _).setCell (by simp; omega) _
theorem nextP_no {w w' : World} {base gb gl : Nat} {v : Option (Pr × List UInt8)} (hv : v = none) (hb : Below w.heap.size w w') : NextP w base gb gl v (.returned (.tuple #[.agg #[.slice none 0 0, .slice none 0 0], .slice none 0 0, .int .i64 3])) w' := by
 subst hv; exact ⟨3, by decide, rfl, hb⟩
set_option maxHeartbeats 4000000 in
set_option maxRecDepth 100000 in
theorem next_false (gb gl base : Nat) (r : List UInt8) (B : Option Addr) (d : Nat) (last : List UInt8) (LA : Option Addr) (LC : Nat) (w : World) (hbx : w.heap[gb]? = some (.cells #[.slice B r.length d] 22)) (hlx : w.heap[gl]? = some (.cells #[.slice LA last.length LC] 22))
   (hr : HBs w base B r) (hrd : r.length ≤ d) (hdd : d ≤ 9223372036854775807) (hla : Own w base 5 LA LC last) (hne : gb ≠ gl) (hgb : base ≤ gb) (hgl : base ≤ gl) (h1 : r.length ≤ 1000000) (h2 : last.length ≤ 1000000) (hr0 : r ≠ []) :
   Calls Tryz.prog 93 #[.bool false, .pointer (some ⟨gb, 0, none⟩), .pointer (some ⟨gl, 0, none⟩)] w (NextP w base gb gl (Blk.nextP false last r)) := by
 obtain ⟨W, hW⟩ : ∃ W, W = w.alloc (.cells #[.slice none 0 0, .slice none 0 0] 77) := ⟨_, rfl⟩
 have hbW : Below w.heap.size w W := by rw [hW]; exact (Below.refl _ _).alloc (Nat.le_refl _) _
 have hHW : W.heap[w.heap.size]? = some (.cells #[.slice none 0 0, .slice none 0 0] 77) := by rw [hW]; exact heap_alloc_new _ _
 have hgbl : gb < w.heap.size := (Array.getElem?_eq_some_iff.1 hbx).1
 have hgll : gl < w.heap.size := (Array.getElem?_eq_some_iff.1 hlx).1
 have hbX := (hbW.block _ hgbl).trans hbx
 have hlX := (hbW.block _ hgll).trans hlx
 have r0 := box_cell hbX
 have HLX := hid hlX
 have HBX := hid hbX
 have HR := hid (hr.below hbW)
 have HLA := hid (hla.below hbW)
 have HBW := hid hbW
 have HHW := hid hHW
 have hzW : W.heap.size = w.heap.size + 1 := by rw [hW]; simp
 have HZW := hid hzW
 have HR0 := hid hr0
 have hbase : base ≤ w.heap.size := by omega
 have hgbW : gb < W.heap.size := by omega
 have hglW : gl < W.heap.size := by omega
 have KT := takeF_any B d r W HR.out.rd (by omega) hrd hdd
 clear hbx hlx hr hla hbW hHW hr0 hbX hlX hzW
 rw [hW] at r0
 cases ht : Cod.take r with
 | none =>
   rw [ht] at KT
   have HT := hid ht
   have HK := hid KT
   clear KT ht
   go_enter Tryz.func93, Tryz.ntmps93
   go_wp2_with fail
   rw [← hW]
   refine HK.out.mono ?_
   rintro e w1 ⟨hb1, rfl⟩
   have HB1 := hid hb1
   clear hb1 r0 hW
   have HN : Hid (Blk.nextP false last r = none) := hid (Blk.nextP_no1 HT.out)
   have hcw := (HB1.out.block w.heap.size (by have := HZW.out; omega)).trans HHW.out
   have HCW := hid hcw
   have q0 := cell_of_row w1 w.heap.size 0 _ _ (0, 0) hcw
   have q1 := cell_of_row w1 w.heap.size 1 _ _ (0, 0) hcw
   have f0 := frozen_of_row w1 w.heap.size 0 _ _ hcw
   have f1 := frozen_of_row w1 w.heap.size 1 _ _ hcw
   simp only [List.getElem?_toArray, List.getElem?_cons_zero, List.getElem?_cons_succ] at q0 q1
   clear hcw
   have HFB := hid (HBW.out.trans (HB1.out.mono HBW.out.size))
   go_wp2_with fail
   refine bodyPost_ret (results_c3 rfl _ _ w.heap.size 77 #[.slice none 0 0, .slice none 0 0] _ _ rfl (heap_set2 HCW.out) Tryz.underlying77 rfl pair2_size) rfl ?_
   exact nextP_no HN.out ((HFB.out.setCell (by simp) _).setCell (by simp) _)
 | some v1 =>
   obtain ⟨n, R1⟩ := v1
   rw [ht] at KT
   have HT1 := hid ht
   have HK := hid KT
   have hn64 := (Cod.take_bound ht).1
   have hR1 := (Cod.take_bound ht).2
   clear KT ht
   go_enter Tryz.func93, Tryz.ntmps93
   go_wp2_with fail
   rw [← hW]
   refine HK.out.mono ?_
   rintro e w1 ⟨hb1, B1, d1, rfl, hd1, hdd1, hr1, hf1⟩
   have HB1 := hid hb1
   have HR1 := hid (HR.out.frs HR0.out hb1 hf1 hr1)
   have lx1 := box_cell ((hb1.block _ hglW).trans HLX.out)
   have HLA1 := hid (HLA.out.below hb1)
   clear hb1 r0 hW hr1 hf1
   by_cases hnl : (last.length : Int) < (n : Int)
   · have hll : IntKind.u64.wrap (last.length : Int) = (last.length : Int) := by rw [IntKind.wrap_u64]; omega
     have HN : Hid (Blk.nextP false last r = none) := hid (Blk.nextP_no2 HT1.out (by omega))
     have hcw := (HB1.out.block w.heap.size (by have := HZW.out; omega)).trans HHW.out
     have HCW := hid hcw
     have q0 := cell_of_row w1 w.heap.size 0 _ _ (0, 0) hcw
     have q1 := cell_of_row w1 w.heap.size 1 _ _ (0, 0) hcw
     have f0 := frozen_of_row w1 w.heap.size 0 _ _ hcw
     have f1 := frozen_of_row w1 w.heap.size 1 _ _ hcw
     simp only [List.getElem?_toArray, List.getElem?_cons_zero, List.getElem?_cons_succ] at q0 q1
     clear hcw
     have HFB := hid (HBW.out.trans (HB1.out.mono HBW.out.size))
     go_wp2_with fail
     refine bodyPost_ret (results_c3 rfl _ _ w.heap.size 77 #[.slice none 0 0, .slice none 0 0] _ _ rfl (heap_set2 HCW.out) Tryz.underlying77 rfl pair2_size) rfl ?_
     exact nextP_no HN.out ((HFB.out.setCell (by simp) _).setCell (by simp) _)
   have KT := takeTextS_any B1 d1 R1 w1 HR1.out.rd (by omega) hd1 hdd1
   cases ht : cutT (Cod.take R1) with
   | none =>
     rw [ht] at KT
     have HT2 := hid ht
     have HK := hid KT
     clear KT ht
     go_wp2_with fail
     refine HK.out.mono ?_
     rintro e w2 ⟨hb2, rfl⟩
     have HB2 := hid (HB1.out.trans (hb2.mono HB1.out.size))
     clear hb2 lx1
     have HN : Hid (Blk.nextP false last r = none) := hid (Blk.nextP_no3 HT1.out (by omega) (fun h => by cases h) HT2.out)
     have hcw := (HB2.out.block w.heap.size (by have := HZW.out; omega)).trans HHW.out
     have HCW := hid hcw
     have q0 := cell_of_row w2 w.heap.size 0 _ _ (0, 0) hcw
     have q1 := cell_of_row w2 w.heap.size 1 _ _ (0, 0) hcw
     have f0 := frozen_of_row w2 w.heap.size 0 _ _ hcw
     have f1 := frozen_of_row w2 w.heap.size 1 _ _ hcw
     simp only [List.getElem?_toArray, List.getElem?_cons_zero, List.getElem?_cons_succ] at q0 q1
     clear hcw
     have HFB := hid (HBW.out.trans (HB2.out.mono HBW.out.size))
     go_wp2_with fail
     refine bodyPost_ret (results_c3 rfl _ _ w.heap.size 77 #[.slice none 0 0, .slice none 0 0] _ _ rfl (heap_set2 HCW.out) Tryz.underlying77 rfl pair2_size) rfl ?_
     exact nextP_no HN.out ((HFB.out.setCell (by simp) _).setCell (by simp) _)
   | some v2 =>
     obtain ⟨k, R2⟩ := v2
     rw [ht] at KT
     have HT2 := hid ht
     have HK := hid KT
     have e2 := Frm.cutT_text ht
     have hR2 : R2.length + k.length + 1 ≤ R1.length := by rw [e2, List.length_append]; unfold Cod.text Cod.number; simp; omega
     clear KT ht e2
     go_wp2_with fail
     refine HK.out.mono ?_
     rintro e w2 ⟨hb2, A2, c2, B2, d2, rfl, ho2, hr2, hd2, hdd2, hf2⟩
     have hne1 : R1 ≠ [] := fun e => by have := hR2; rw [e] at this; simp at this
     have HB2 := hid (HB1.out.trans (hb2.mono HB1.out.size))
     have HR2 := hid (HR1.out.frs hne1 hb2 hf2 hr2)
     have HLA2 := hid (HLA1.out.below hb2)
     have HK2 := hid (ho2.mono HB1.out.size)
     clear hb2 lx1 ho2 hr2 hf2 hne1
     have KT := takeTextS_any B2 d2 R2 w2 HR2.out.rd (by omega) hd2 hdd2
     cases ht : cutT (Cod.take R2) with
     | none =>
       rw [ht] at KT
       have HT3 := hid ht
       have HK := hid KT
       clear KT ht
       go_wp2_with fail
       refine HK.out.mono ?_
       rintro e w3 ⟨hb3, rfl⟩
       have HB3 := hid (HB2.out.trans (hb3.mono HB2.out.size))
       clear hb3
       have HN : Hid (Blk.nextP false last r = none) := hid (Blk.nextP_no4 HT1.out (by omega) (fun h => by cases h) HT2.out HT3.out)
       have hcw := (HB3.out.block w.heap.size (by have := HZW.out; omega)).trans HHW.out
       have HCW := hid hcw
       have q0 := cell_of_row w3 w.heap.size 0 _ _ (0, 0) hcw
       have q1 := cell_of_row w3 w.heap.size 1 _ _ (0, 0) hcw
       have f0 := frozen_of_row w3 w.heap.size 0 _ _ hcw
       have f1 := frozen_of_row w3 w.heap.size 1 _ _ hcw
       simp only [List.getElem?_toArray, List.getElem?_cons_zero, List.getElem?_cons_succ] at q0 q1
       clear hcw
       have HFB := hid (HBW.out.trans (HB3.out.mono HBW.out.size))
       go_wp2_with fail
       refine bodyPost_ret (results_c3 rfl _ _ w.heap.size 77 #[.slice none 0 0, .slice none 0 0] _ _ rfl (heap_set2 HCW.out) Tryz.underlying77 rfl pair2_size) rfl ?_
       exact nextP_no HN.out ((HFB.out.setCell (by simp) _).setCell (by simp) _)
     | some v3 =>
       obtain ⟨v, R3⟩ := v3
       rw [ht] at KT
       have HT3 := hid ht
       have HK := hid KT
       have e3 := Frm.cutT_text ht
       have hR3 : R3.length + v.length + 1 ≤ R2.length := by rw [e3, List.length_append]; unfold Cod.text Cod.number; simp; omega
       clear KT ht e3
       go_wp2_with fail
       refine HK.out.mono ?_
       rintro e w3 ⟨hb3, A3, c3, B3, d3, rfl, ho3, hr3, hd3, hdd3, hf3⟩
       have hne2 : R2 ≠ [] := fun e => by have := hR3; rw [e] at this; simp at this
       have HB3 := hid (HB2.out.trans (hb3.mono HB2.out.size))
       have HR3 := hid (HR2.out.frs hne2 hb3 hf3 hr3)
       have HLA3 := hid (HLA2.out.below hb3)
       have HK3 := hid (HK2.out.below hb3)
       have HV3 := hid (ho3.mono (Nat.le_trans HBW.out.size HB2.out.size))
       have lx3 := box_cell ((HB3.out.block _ hglW).trans HLX.out)
       clear hb3 ho3 hr3 hf3 hne2
       have hn0 : (0 : Int) ≤ (n : Int) := by omega
       have hlc := HLA3.out.cap
       have hlcc := HLA3.out.cap_le
       have hn1 : (n : Int) ≤ (LC : Int) := by omega
       have htl : (last.take n).length = n := by rw [List.length_take]; omega
       have KC := hid (concat_two LA A2 n LC c2 (last.take n) k w3 htl.symm (HLA3.out.rd.take (by omega)) HK3.out.rd (by omega))
       obtain ⟨X, hX⟩ : ∃ X, X = last.take n ++ k := ⟨_, rfl⟩
       have hXl : X.length ≤ 2000000 := by rw [hX, List.length_append, htl]; omega
       rw [← hX] at KC
       have HXE := hid hX
       clear htl hX
       go_wp2_with fail
       refine KC.out.mono ?_
       rintro e w4 ⟨A4, c4, rfl, ho4, hb4⟩
       have hz4 : w3.heap.size + 1 ≤ w4.heap.size := by have := hb4.size; simpa using this
       have hb34 : Below w3.heap.size w3 w4 := ((Below.refl _ _).alloc (Nat.le_refl _) _).trans (hb4.mono (by simp))
       have HB4 := hid (HB3.out.trans (hb34.mono HB3.out.size))
       have HR4 := hid (HR3.out.below hb34)
       have HLA4 := hid (HLA3.out.below hb34)
       have HV4 := hid (HV3.out.below hb34)
       have hws : w.heap.size ≤ w3.heap.size := Nat.le_trans HBW.out.size HB3.out.size
       have HX4 : Hid (Own w4 w.heap.size 5 A4 c4 X) := hid (ho4.mono (by simp; omega))
       have HCAP : Hid (R3.length ≤ d3 ∧ d3 ≤ 9223372036854775807) := hid ⟨hd3, hdd3⟩
       clear ho4 hb4 hb34 lx3 KC
       have lx4 := box_cell ((HB4.out.block _ hglW).trans HLX.out)
       obtain ⟨CV, hCV⟩ : ∃ CV, CV = Lib.compareBytes X last := ⟨_, rfl⟩
       have KCV := hid (bcmp_any w4.heap.size A4 c4 X w4.heap.size LA LC last w4 HX4.out.rd HLA4.out.rd)
       rw [← hCV] at KCV
       have HCV := hid hCV
       clear hCV
       by_cases hcv : CV ≤ 0
       · have hcv2 : decide (CV ≤ 0) = true := decide_eq_true hcv
         go_wp2_with fail
         refine KCV.out.mono ?_
         rintro e w5 ⟨rfl, rfl⟩
         clear lx4
         have HN : Hid (Blk.nextP false last r = none) := hid (Blk.nextP_no5 HT1.out (by omega) (fun h => by cases h) HT2.out HT3.out rfl (.inl (by rw [← HXE.out, ← HCV.out]; exact hcv)))
         have hcw := (HB4.out.block w.heap.size (by have := HZW.out; omega)).trans HHW.out
         have HCW := hid hcw
         have q0 := cell_of_row w4 w.heap.size 0 _ _ (0, 0) hcw
         have q1 := cell_of_row w4 w.heap.size 1 _ _ (0, 0) hcw
         have f0 := frozen_of_row w4 w.heap.size 0 _ _ hcw
         have f1 := frozen_of_row w4 w.heap.size 1 _ _ hcw
         simp only [List.getElem?_toArray, List.getElem?_cons_zero, List.getElem?_cons_succ] at q0 q1
         clear hcw
         have HFB := hid (HBW.out.trans (HB4.out.mono HBW.out.size))
         go_wp2_with fail
         refine bodyPost_ret (results_c3 rfl _ _ w.heap.size 77 #[.slice none 0 0, .slice none 0 0] _ _ rfl (heap_set2 HCW.out) Tryz.underlying77 rfl pair2_size) rfl ?_
         exact nextP_no HN.out ((HFB.out.setCell (by simp) _).setCell (by simp) _)
       obtain ⟨CM, hCM⟩ : ∃ CM, CM = Blk.common X last := ⟨_, rfl⟩
       have KCM := hid (common_any A4 c4 X LA LC last w4 HX4.out.rd HLA4.out.rd (by omega) (by omega))
       rw [← hCM] at KCM
       have HCM := hid hCM
       have hcv2 : decide (CV ≤ 0) = false := decide_eq_false hcv
       have hnw : IntKind.i64.wrap (n : Int) = (n : Int) := by rw [IntKind.wrap_i64]; omega
       clear hCM
       by_cases hcm : CM = n
       · subst hcm
         have HGC : Hid (¬ (Lib.compareBytes (last.take CM ++ k) last ≤ 0 ∨ Blk.common (last.take CM ++ k) last ≠ CM)) := hid (by
           rw [← HXE.out, ← HCV.out, ← HCM.out]
           rintro (h | h)
           · exact hcv h
           · exact h rfl)
         go_wp2_with fail
         refine KCV.out.mono ?_
         rintro e w5 ⟨rfl, rfl⟩
         go_wp2_with fail
         refine KCM.out.mono ?_
         rintro e w5 ⟨rfl, hb5⟩
         have HB5 := hid (HB4.out.trans (hb5.mono HB4.out.size))
         have HR5 := hid (HR4.out.below hb5)
         have HV5 := hid (HV4.out.below hb5)
         have HX5 := hid (HX4.out.below hb5)
         clear hb5 lx4
         have HN : Hid (Blk.nextP false last r = some (⟨X, v⟩, R3)) := hid (by rw [HXE.out]; exact Blk.nextP_yes HT1.out (by omega) (fun h => by cases h) HT2.out HT3.out (fun _ => HGC.out))
         have hbxk := (HB5.out.block _ hgbW).trans HBX.out
         have hlxk := (HB5.out.block _ hglW).trans HLX.out
         have bxf := box_frozen hbxk
         have bxc := box_cell hbxk
         have lxf := box_frozen hlxk
         have lxc := box_cell hlxk
         have hcwk := (HB5.out.block w.heap.size (by have := HZW.out; omega)).trans HHW.out
         have HBXK := hid hbxk
         have HLXK := hid hlxk
         have HCWK := hid hcwk
         have d25 : 22 ≠ 5 := by decide
         have hbx2 : (w5.setCell ⟨gl, 0, none⟩ (.slice A4 X.length c4)).heap[gb]? = some (.cells #[.slice B r.length d] 22) := (heap_setD _ hne).trans hbxk
         have KK := hid (clone_any A4 c4 X ((w5.setCell ⟨gl, 0, none⟩ (.slice A4 X.length c4)).setCell ⟨gb, 0, none⟩ (.slice B3 R3.length d3)) (own_set_tag (own_set_tag HX5.out hlxk d25) hbx2 d25).rd (by omega))
         have hng1 : gl ≠ gb := fun e => hne e.symm
         clear hbxk hlxk hcwk hbx2 d25
         go_wp2_with fail
         refine KK.out.mono ?_
         rintro e w7 ⟨A7, c7, rfl, ho7, hb7⟩
         have HO7 := hid ho7
         have HB7 := hid hb7
         have hc7 : w7.heap[w.heap.size]? = some (.cells #[.slice none 0 0, .slice none 0 0] 77) := (hb7.block _ (by simp; have h1 := (Array.getElem?_eq_some_iff.1 HCWK.out).1; omega)).trans ((heap_setD _ (by simp; omega)).trans ((heap_setD _ (by simp; omega)).trans HCWK.out))
         have HC7 := hid hc7
         have q0 := cell_of_row w7 w.heap.size 0 _ _ (0, 0) hc7
         have q1 := cell_of_row w7 w.heap.size 1 _ _ (0, 0) hc7
         have f0 := frozen_of_row w7 w.heap.size 0 _ _ hc7
         have f1 := frozen_of_row w7 w.heap.size 1 _ _ hc7
         simp only [List.getElem?_toArray, List.getElem?_cons_zero, List.getElem?_cons_succ] at q0 q1
         have HOK := fun a1 a2 => hid (nextOk_mk (a1 := a1) (a2 := a2) (HBW.out.trans (HB5.out.mono HBW.out.size)) HCWK.out HBXK.out HLXK.out hne hgb hgl hgbl hgll HX5.out HV5.out HR5.out HCAP.out HO7.out HB7.out)
         clear ho7 hb7 hc7 KK bxf bxc lxf lxc
         go_wp2_with fail
         refine bodyPost_ret (results_c3 rfl _ _ w.heap.size 77 #[.slice A7 X.length c7, .slice A3 v.length c3] _ _ rfl (heap_set2 HC7.out) Tryz.underlying77 rfl pair2_size) rfl ?_
         rw [HN.out]
         exact ⟨⟨A7, c7, X, A3, c3, v⟩, B3, d3, A4, c4, rfl, (HOK _ _).out⟩
       · have hcm1 : ((CM : Int) == (n : Int)) = false := by simp; omega
         have hcm2 : ((CM : Int) != (n : Int)) = true := by simp; omega
         go_wp2_with fail
         refine KCV.out.mono ?_
         rintro e w5 ⟨rfl, rfl⟩
         go_wp2_with fail
         refine KCM.out.mono ?_
         rintro e w5 ⟨rfl, hb5⟩
         have HB5 := hid (HB4.out.trans (hb5.mono HB4.out.size))
         clear hb5 lx4
         have HN : Hid (Blk.nextP false last r = none) := hid (Blk.nextP_no5 HT1.out (by omega) (fun h => by cases h) HT2.out HT3.out rfl (.inr (by rw [← HXE.out, ← HCM.out]; exact hcm)))
         have hcw := (HB5.out.block w.heap.size (by have := HZW.out; omega)).trans HHW.out
         have HCW := hid hcw
         have q0 := cell_of_row w5 w.heap.size 0 _ _ (0, 0) hcw
         have q1 := cell_of_row w5 w.heap.size 1 _ _ (0, 0) hcw
         have f0 := frozen_of_row w5 w.heap.size 0 _ _ hcw
         have f1 := frozen_of_row w5 w.heap.size 1 _ _ hcw
         simp only [List.getElem?_toArray, List.getElem?_cons_zero, List.getElem?_cons_succ] at q0 q1
         clear hcw
         have HFB := hid (HBW.out.trans (HB5.out.mono HBW.out.size))
         go_wp2_with fail
         refine bodyPost_ret (results_c3 rfl _ _ w.heap.size 77 #[.slice none 0 0, .slice none 0 0] _ _ rfl (heap_set2 HCW.out) Tryz.underlying77 rfl pair2_size) rfl ?_
         exact nextP_no HN.out ((HFB.out.setCell (by simp) _).setCell (by simp) _)
set_option maxHeartbeats 4000000 in
set_option maxRecDepth 100000 in
theorem next_true (gb gl base : Nat) (r : List UInt8) (B : Option Addr) (d : Nat) (last : List UInt8) (LA : Option Addr) (LC : Nat) (w : World) (hbx : w.heap[gb]? = some (.cells #[.slice B r.length d] 22)) (hlx : w.heap[gl]? = some (.cells #[.slice LA last.length LC] 22))
   (hr : HBs w base B r) (hrd : r.length ≤ d) (hdd : d ≤ 9223372036854775807) (hla : Own w base 5 LA LC last) (hne : gb ≠ gl) (hgb : base ≤ gb) (hgl : base ≤ gl) (h1 : r.length ≤ 1000000) (h2 : last.length ≤ 1000000) (hr0 : r ≠ []) :
   Calls Tryz.prog 93 #[.bool true, .pointer (some ⟨gb, 0, none⟩), .pointer (some ⟨gl, 0, none⟩)] w (NextP w base gb gl (Blk.nextP true last r)) := by
 obtain ⟨W, hW⟩ : ∃ W, W = w.alloc (.cells #[.slice none 0 0, .slice none 0 0] 77) := ⟨_, rfl⟩
 have hbW : Below w.heap.size w W := by rw [hW]; exact (Below.refl _ _).alloc (Nat.le_refl _) _
 have hHW : W.heap[w.heap.size]? = some (.cells #[.slice none 0 0, .slice none 0 0] 77) := by rw [hW]; exact heap_alloc_new _ _
 have hgbl : gb < w.heap.size := (Array.getElem?_eq_some_iff.1 hbx).1
 have hgll : gl < w.heap.size := (Array.getElem?_eq_some_iff.1 hlx).1
 have hbX := (hbW.block _ hgbl).trans hbx
 have hlX := (hbW.block _ hgll).trans hlx
 have r0 := box_cell hbX
 have HLX := hid hlX
 have HBX := hid hbX
 have HR := hid (hr.below hbW)
 have HLA := hid (hla.below hbW)
 have HBW := hid hbW
 have HHW := hid hHW
 have hzW : W.heap.size = w.heap.size + 1 := by rw [hW]; simp
 have HZW := hid hzW
 have HR0 := hid hr0
 have hbase : base ≤ w.heap.size := by omega
 have hgbW : gb < W.heap.size := by omega
 have hglW : gl < W.heap.size := by omega
 have KT := takeF_any B d r W HR.out.rd (by omega) hrd hdd
 clear hbx hlx hr hla hbW hHW hr0 hbX hlX hzW
 rw [hW] at r0
 cases ht : Cod.take r with
 | none =>
   rw [ht] at KT
   have HT := hid ht
   have HK := hid KT
   clear KT ht
   go_enter Tryz.func93, Tryz.ntmps93
   go_wp2_with fail
   rw [← hW]
   refine HK.out.mono ?_
   rintro e w1 ⟨hb1, rfl⟩
   have HB1 := hid hb1
   clear hb1 r0 hW
   have HN : Hid (Blk.nextP true last r = none) := hid (Blk.nextP_no1 HT.out)
   have hcw := (HB1.out.block w.heap.size (by have := HZW.out; omega)).trans HHW.out
   have HCW := hid hcw
   have q0 := cell_of_row w1 w.heap.size 0 _ _ (0, 0) hcw
   have q1 := cell_of_row w1 w.heap.size 1 _ _ (0, 0) hcw
   have f0 := frozen_of_row w1 w.heap.size 0 _ _ hcw
   have f1 := frozen_of_row w1 w.heap.size 1 _ _ hcw
   simp only [List.getElem?_toArray, List.getElem?_cons_zero, List.getElem?_cons_succ] at q0 q1
   clear hcw
   have HFB := hid (HBW.out.trans (HB1.out.mono HBW.out.size))
   go_wp2_with fail
   refine bodyPost_ret (results_c3 rfl _ _ w.heap.size 77 #[.slice none 0 0, .slice none 0 0] _ _ rfl (heap_set2 HCW.out) Tryz.underlying77 rfl pair2_size) rfl ?_
   exact nextP_no HN.out ((HFB.out.setCell (by simp) _).setCell (by simp) _)
 | some v1 =>
   obtain ⟨n, R1⟩ := v1
   rw [ht] at KT
   have HT1 := hid ht
   have HK := hid KT
   have hn64 := (Cod.take_bound ht).1
   have hR1 := (Cod.take_bound ht).2
   clear KT ht
   go_enter Tryz.func93, Tryz.ntmps93
   go_wp2_with fail
   rw [← hW]
   refine HK.out.mono ?_
   rintro e w1 ⟨hb1, B1, d1, rfl, hd1, hdd1, hr1, hf1⟩
   have HB1 := hid hb1
   have HR1 := hid (HR.out.frs HR0.out hb1 hf1 hr1)
   have lx1 := box_cell ((hb1.block _ hglW).trans HLX.out)
   have HLA1 := hid (HLA.out.below hb1)
   clear hb1 r0 hW hr1 hf1
   by_cases hnl : (last.length : Int) < (n : Int)
   · have hll : IntKind.u64.wrap (last.length : Int) = (last.length : Int) := by rw [IntKind.wrap_u64]; omega
     have HN : Hid (Blk.nextP true last r = none) := hid (Blk.nextP_no2 HT1.out (by omega))
     have hcw := (HB1.out.block w.heap.size (by have := HZW.out; omega)).trans HHW.out
     have HCW := hid hcw
     have q0 := cell_of_row w1 w.heap.size 0 _ _ (0, 0) hcw
     have q1 := cell_of_row w1 w.heap.size 1 _ _ (0, 0) hcw
     have f0 := frozen_of_row w1 w.heap.size 0 _ _ hcw
     have f1 := frozen_of_row w1 w.heap.size 1 _ _ hcw
     simp only [List.getElem?_toArray, List.getElem?_cons_zero, List.getElem?_cons_succ] at q0 q1
     clear hcw
     have HFB := hid (HBW.out.trans (HB1.out.mono HBW.out.size))
     go_wp2_with fail
     refine bodyPost_ret (results_c3 rfl _ _ w.heap.size 77 #[.slice none 0 0, .slice none 0 0] _ _ rfl (heap_set2 HCW.out) Tryz.underlying77 rfl pair2_size) rfl ?_
     exact nextP_no HN.out ((HFB.out.setCell (by simp) _).setCell (by simp) _)
   by_cases hn0' : (0 : Int) < (n : Int)
   · have HN : Hid (Blk.nextP true last r = none) := hid (Blk.nextP_no2t HT1.out (by omega))
     have hcw := (HB1.out.block w.heap.size (by have := HZW.out; omega)).trans HHW.out
     have HCW := hid hcw
     have q0 := cell_of_row w1 w.heap.size 0 _ _ (0, 0) hcw
     have q1 := cell_of_row w1 w.heap.size 1 _ _ (0, 0) hcw
     have f0 := frozen_of_row w1 w.heap.size 0 _ _ hcw
     have f1 := frozen_of_row w1 w.heap.size 1 _ _ hcw
     simp only [List.getElem?_toArray, List.getElem?_cons_zero, List.getElem?_cons_succ] at q0 q1
     clear hcw
     have HFB := hid (HBW.out.trans (HB1.out.mono HBW.out.size))
     go_wp2_with fail
     refine bodyPost_ret (results_c3 rfl _ _ w.heap.size 77 #[.slice none 0 0, .slice none 0 0] _ _ rfl (heap_set2 HCW.out) Tryz.underlying77 rfl pair2_size) rfl ?_
     exact nextP_no HN.out ((HFB.out.setCell (by simp) _).setCell (by simp) _)
   have KT := takeTextS_any B1 d1 R1 w1 HR1.out.rd (by omega) hd1 hdd1
   cases ht : cutT (Cod.take R1) with
   | none =>
     rw [ht] at KT
     have HT2 := hid ht
     have HK := hid KT
     clear KT ht
     go_wp2_with fail
     refine HK.out.mono ?_
     rintro e w2 ⟨hb2, rfl⟩
     have HB2 := hid (HB1.out.trans (hb2.mono HB1.out.size))
     clear hb2 lx1
     have HN : Hid (Blk.nextP true last r = none) := hid (Blk.nextP_no3 HT1.out (by omega) (fun _ => by omega) HT2.out)
     have hcw := (HB2.out.block w.heap.size (by have := HZW.out; omega)).trans HHW.out
     have HCW := hid hcw
     have q0 := cell_of_row w2 w.heap.size 0 _ _ (0, 0) hcw
     have q1 := cell_of_row w2 w.heap.size 1 _ _ (0, 0) hcw
     have f0 := frozen_of_row w2 w.heap.size 0 _ _ hcw
     have f1 := frozen_of_row w2 w.heap.size 1 _ _ hcw
     simp only [List.getElem?_toArray, List.getElem?_cons_zero, List.getElem?_cons_succ] at q0 q1
     clear hcw
     have HFB := hid (HBW.out.trans (HB2.out.mono HBW.out.size))
     go_wp2_with fail
     refine bodyPost_ret (results_c3 rfl _ _ w.heap.size 77 #[.slice none 0 0, .slice none 0 0] _ _ rfl (heap_set2 HCW.out) Tryz.underlying77 rfl pair2_size) rfl ?_
     exact nextP_no HN.out ((HFB.out.setCell (by simp) _).setCell (by simp) _)
   | some v2 =>
     obtain ⟨k, R2⟩ := v2
     rw [ht] at KT
     have HT2 := hid ht
     have HK := hid KT
     have e2 := Frm.cutT_text ht
     have hR2 : R2.length + k.length + 1 ≤ R1.length := by rw [e2, List.length_append]; unfold Cod.text Cod.number; simp; omega
     clear KT ht e2
     go_wp2_with fail
     refine HK.out.mono ?_
     rintro e w2 ⟨hb2, A2, c2, B2, d2, rfl, ho2, hr2, hd2, hdd2, hf2⟩
     have hne1 : R1 ≠ [] := fun e => by have := hR2; rw [e] at this; simp at this
     have HB2 := hid (HB1.out.trans (hb2.mono HB1.out.size))
     have HR2 := hid (HR1.out.frs hne1 hb2 hf2 hr2)
     have HLA2 := hid (HLA1.out.below hb2)
     have HK2 := hid (ho2.mono HB1.out.size)
     clear hb2 lx1 ho2 hr2 hf2 hne1
     have KT := takeTextS_any B2 d2 R2 w2 HR2.out.rd (by omega) hd2 hdd2
     cases ht : cutT (Cod.take R2) with
     | none =>
       rw [ht] at KT
       have HT3 := hid ht
       have HK := hid KT
       clear KT ht
       go_wp2_with fail
       refine HK.out.mono ?_
       rintro e w3 ⟨hb3, rfl⟩
       have HB3 := hid (HB2.out.trans (hb3.mono HB2.out.size))
       clear hb3
       have HN : Hid (Blk.nextP true last r = none) := hid (Blk.nextP_no4 HT1.out (by omega) (fun _ => by omega) HT2.out HT3.out)
       have hcw := (HB3.out.block w.heap.size (by have := HZW.out; omega)).trans HHW.out
       have HCW := hid hcw
       have q0 := cell_of_row w3 w.heap.size 0 _ _ (0, 0) hcw
       have q1 := cell_of_row w3 w.heap.size 1 _ _ (0, 0) hcw
       have f0 := frozen_of_row w3 w.heap.size 0 _ _ hcw
       have f1 := frozen_of_row w3 w.heap.size 1 _ _ hcw
       simp only [List.getElem?_toArray, List.getElem?_cons_zero, List.getElem?_cons_succ] at q0 q1
       clear hcw
       have HFB := hid (HBW.out.trans (HB3.out.mono HBW.out.size))
       go_wp2_with fail
       refine bodyPost_ret (results_c3 rfl _ _ w.heap.size 77 #[.slice none 0 0, .slice none 0 0] _ _ rfl (heap_set2 HCW.out) Tryz.underlying77 rfl pair2_size) rfl ?_
       exact nextP_no HN.out ((HFB.out.setCell (by simp) _).setCell (by simp) _)
     | some v3 =>
       obtain ⟨v, R3⟩ := v3
       rw [ht] at KT
       have HT3 := hid ht
       have HK := hid KT
       have e3 := Frm.cutT_text ht
       have hR3 : R3.length + v.length + 1 ≤ R2.length := by rw [e3, List.length_append]; unfold Cod.text Cod.number; simp; omega
       clear KT ht e3
       go_wp2_with fail
       refine HK.out.mono ?_
       rintro e w3 ⟨hb3, A3, c3, B3, d3, rfl, ho3, hr3, hd3, hdd3, hf3⟩
       have hne2 : R2 ≠ [] := fun e => by have := hR3; rw [e] at this; simp at this
       have HB3 := hid (HB2.out.trans (hb3.mono HB2.out.size))
       have HR3 := hid (HR2.out.frs hne2 hb3 hf3 hr3)
       have HLA3 := hid (HLA2.out.below hb3)
       have HK3 := hid (HK2.out.below hb3)
       have HV3 := hid (ho3.mono (Nat.le_trans HBW.out.size HB2.out.size))
       have lx3 := box_cell ((HB3.out.block _ hglW).trans HLX.out)
       clear hb3 ho3 hr3 hf3 hne2
       have hn0 : (0 : Int) ≤ (n : Int) := by omega
       have hlc := HLA3.out.cap
       have hlcc := HLA3.out.cap_le
       have hn1 : (n : Int) ≤ (LC : Int) := by omega
       have htl : (last.take n).length = n := by rw [List.length_take]; omega
       have KC := hid (concat_two LA A2 n LC c2 (last.take n) k w3 htl.symm (HLA3.out.rd.take (by omega)) HK3.out.rd (by omega))
       obtain ⟨X, hX⟩ : ∃ X, X = last.take n ++ k := ⟨_, rfl⟩
       have hXl : X.length ≤ 2000000 := by rw [hX, List.length_append, htl]; omega
       rw [← hX] at KC
       have HXE := hid hX
       clear htl hX
       go_wp2_with fail
       refine KC.out.mono ?_
       rintro e w4 ⟨A4, c4, rfl, ho4, hb4⟩
       have hz4 : w3.heap.size + 1 ≤ w4.heap.size := by have := hb4.size; simpa using this
       have hb34 : Below w3.heap.size w3 w4 := ((Below.refl _ _).alloc (Nat.le_refl _) _).trans (hb4.mono (by simp))
       have HB4 := hid (HB3.out.trans (hb34.mono HB3.out.size))
       have HR4 := hid (HR3.out.below hb34)
       have HLA4 := hid (HLA3.out.below hb34)
       have HV4 := hid (HV3.out.below hb34)
       have hws : w.heap.size ≤ w3.heap.size := Nat.le_trans HBW.out.size HB3.out.size
       have HX4 : Hid (Own w4 w.heap.size 5 A4 c4 X) := hid (ho4.mono (by simp; omega))
       have HCAP : Hid (R3.length ≤ d3 ∧ d3 ≤ 9223372036854775807) := hid ⟨hd3, hdd3⟩
       clear ho4 hb4 hb34 lx3 KC
       have lx4 := box_cell ((HB4.out.block _ hglW).trans HLX.out)
       have HN : Hid (Blk.nextP true last r = some (⟨X, v⟩, R3)) := hid (by rw [HXE.out]; exact Blk.nextP_yes HT1.out (by omega) (fun _ => by omega) HT2.out HT3.out (fun h => by cases h))
       have hbxk := (HB4.out.block _ hgbW).trans HBX.out
       have hlxk := (HB4.out.block _ hglW).trans HLX.out
       have bxf := box_frozen hbxk
       have bxc := box_cell hbxk
       have lxf := box_frozen hlxk
       have lxc := box_cell hlxk
       have hcwk := (HB4.out.block w.heap.size (by have := HZW.out; omega)).trans HHW.out
       have HBXK := hid hbxk
       have HLXK := hid hlxk
       have HCWK := hid hcwk
       have d25 : 22 ≠ 5 := by decide
       have hbx2 : (w4.setCell ⟨gl, 0, none⟩ (.slice A4 X.length c4)).heap[gb]? = some (.cells #[.slice B r.length d] 22) := (heap_setD _ hne).trans hbxk
       have KK := hid (clone_any A4 c4 X ((w4.setCell ⟨gl, 0, none⟩ (.slice A4 X.length c4)).setCell ⟨gb, 0, none⟩ (.slice B3 R3.length d3)) (own_set_tag (own_set_tag HX4.out hlxk d25) hbx2 d25).rd (by omega))
       have hng1 : gl ≠ gb := fun e => hne e.symm
       clear hbxk hlxk hcwk hbx2 d25
       go_wp2_with fail
       refine KK.out.mono ?_
       rintro e w7 ⟨A7, c7, rfl, ho7, hb7⟩
       have HO7 := hid ho7
       have HB7 := hid hb7
       have hc7 : w7.heap[w.heap.size]? = some (.cells #[.slice none 0 0, .slice none 0 0] 77) := (hb7.block _ (by simp; have h1 := (Array.getElem?_eq_some_iff.1 HCWK.out).1; omega)).trans ((heap_setD _ (by simp; omega)).trans ((heap_setD _ (by simp; omega)).trans HCWK.out))
       have HC7 := hid hc7
       have q0 := cell_of_row w7 w.heap.size 0 _ _ (0, 0) hc7
       have q1 := cell_of_row w7 w.heap.size 1 _ _ (0, 0) hc7
       have f0 := frozen_of_row w7 w.heap.size 0 _ _ hc7
       have f1 := frozen_of_row w7 w.heap.size 1 _ _ hc7
       simp only [List.getElem?_toArray, List.getElem?_cons_zero, List.getElem?_cons_succ] at q0 q1
       have HOK := fun a1 a2 => hid (nextOk_mk (a1 := a1) (a2 := a2) (HBW.out.trans (HB4.out.mono HBW.out.size)) HCWK.out HBXK.out HLXK.out hne hgb hgl hgbl hgll HX4.out HV4.out HR4.out HCAP.out HO7.out HB7.out)
       clear ho7 hb7 hc7 KK bxf bxc lxf lxc
       go_wp2_with fail
       refine bodyPost_ret (results_c3 rfl _ _ w.heap.size 77 #[.slice A7 X.length c7, .slice A3 v.length c3] _ _ rfl (heap_set2 HC7.out) Tryz.underlying77 rfl pair2_size) rfl ?_
       rw [HN.out]
       exact ⟨⟨A7, c7, X, A3, c3, v⟩, B3, d3, A4, c4, rfl, (HOK _ _).out⟩
theorem RdS.int_at {w : World} {B : Nat} {A : Option Addr} {l : List Nat} (h : RdS Nc 1 w B A l) (hl : 0 < l.length) : ∃ b off, A = some ⟨b, off, none⟩ ∧ b < B ∧ ∀ k (hk : k < l.length), w.cell? ⟨b, off + k, none⟩ = some (.int .i64 (l[k] : Int)) := by
 obtain ⟨b, off, hA, hb, hc⟩ := RdS.row (f := Nc) (n := 1) (fun _ => rfl) (by omega) h hl
 exact ⟨b, off, hA, hb, fun k hk => by have := hc k hk 0 _ rfl; simpa using this⟩
set_option maxHeartbeats 1000000 in
set_option maxRecDepth 100000 in
theorem eqn_any (A : Option Addr) (c : Nat) (l : List Nat) (A2 : Option Addr) (c2 : Nat) (m : List Nat) (w : World) (h : RdS Nc 1 w w.heap.size A l) (h2 : RdS Nc 1 w w.heap.size A2 m) (hl : l.length ≤ 1000000) :
   Calls Tryz.prog 60 #[.slice A l.length c, .slice A2 m.length c2] w fun e w' => e = .returned (.bool (l == m)) ∧ Below w.heap.size w w' := by
 by_cases hlm : l.length = m.length
 · have HH := hid h
   have HH2 := hid h2
   have HLM := hid hlm
   rw [← hlm]
   clear h h2 hlm
   go_enter Tryz.func60, Tryz.ntmps60
   go_wp2_with fail
   go_loopw [13, 5, 15, 16, 17, 18, 19, 20, 21, 22, 23, 24] (fun i _ _ _ _ _ _ _ _ _ _ _ wr => ∃ k : Nat, k ≤ l.length ∧ i = .int .i64 (k : Int) ∧ Hid (∀ j (h1 : j < l.length) (h2 : j < m.length), j < k → l[j] = m[j]) ∧ Hid (Below w.heap.size w wr)) (fun i _ _ _ _ _ _ _ _ _ _ _ _ => l.length - (intOf i).toNat)
   case atStart => exact ⟨0, by omega, rfl, hid (fun j _ _ h => by omega), hid (Below.refl _ _)⟩
   case round =>
     obtain ⟨k, hk, rfl, HP, HB⟩ := hrel
     by_cases hlt : k < l.length
     · have hlt2 : k < m.length := by have := HLM.out; omega
       obtain ⟨b1, o1, rfl, hb1, hc1⟩ := HH.out.int_at (by omega)
       obtain ⟨b2, o2, rfl, hb2, hc2⟩ := HH2.out.int_at (by omega)
       have c1 := (HB.out.cell (p := ⟨b1, o1 + k, none⟩) hb1).trans (hc1 k hlt)
       have c2' := (HB.out.cell (p := ⟨b2, o2 + k, none⟩) hb2).trans (hc2 k hlt2)
       obtain ⟨x, hx⟩ : ∃ x, x = l[k] := ⟨_, rfl⟩
       obtain ⟨y, hy⟩ : ∃ y, y = m[k] := ⟨_, rfl⟩
       rw [← hx] at c1
       rw [← hy] at c2'
       have HXY : Hid (x = l[k] ∧ y = m[k]) := hid ⟨hx, hy⟩
       have i0 : (0 : Int) ≤ (k : Int) := by omega
       have i1 : (k : Int) < (l.length : Int) := by omega
       clear hc1 hc2 hx hy
       by_cases hxy : x = y
       · subst hxy
         have HP2 : Hid (∀ j (h1 : j < l.length) (h2 : j < m.length), j < k + 1 → l[j] = m[j]) := hid (fun j h1 h2 h3 => by
           by_cases hjk : j = k
           · subst hjk; rw [← HXY.out.1, ← HXY.out.2]
           · exact HP.out j h1 h2 (by omega))
         go_wp2_with fail
         go_quiet (fail)
         refine drewN_any ?_
         intro X hbX _
         have HBX := hid (HB.out.trans (hbX.mono HB.out.size))
         clear hbX
         go_wp2_with fail
         go_roundw
         case rel => exact ⟨k + 1, by omega, by go_num, HP2, HBX⟩
         case measure => simp [intOf]; omega
       · have HE : Hid ((l == m) = false) := hid (by
           rw [beq_eq_false_iff_ne]
           intro h
           apply hxy
           rw [HXY.out.1, HXY.out.2]
           simp only [h])
         have e1 : ((x : Int) == (y : Int)) = false := by simp; omega
         have e2 : ((x : Int) != (y : Int)) = true := by simp; omega
         clear hxy
         go_wp2_with fail
         go_quiet (fail)
         refine drewN_any ?_
         intro X hbX _
         have HBX := hid (HB.out.trans (hbX.mono HB.out.size))
         clear hbX
         go_wp2_with fail
         go_ret
         exact ⟨by rw [HE.out]; rfl, HBX.out⟩
     · have hke : k = l.length := by omega
       subst hke
       have HE : Hid ((l == m) = true) := hid (by
         rw [beq_iff_eq]
         exact List.ext_getElem HLM.out (fun i h1 h2 => HP.out i h1 h2 h1))
       go_wp2_with fail
       go_ret
       exact ⟨by rw [HE.out]; rfl, HB.out⟩
 · have e : (l == m) = false := by
     rw [beq_eq_false_iff_ne]; intro h; exact hlm (by rw [h])
   rw [e]
   have h3 : ((l.length : Int) == (m.length : Int)) = false := by simp; omega
   have h4 : ((l.length : Int) != (m.length : Int)) = true := by simp; omega
   clear h h2 e
   go_enter Tryz.func60, Tryz.ntmps60
   go_wp2_with fail
   go_ret
   exact ⟨rfl, Below.refl _ _⟩
structure PaI (w : World) (n gx gb gl : Nat) (XV : Obj) (B : Option Addr) (d : Nat) (r : List UInt8) (OA : Option Addr) (OC : Nat) (o : List Pv) (NA : Option Addr) (NC : Nat) (hs : List Nat) (LA : Option Addr) (LC : Nat) (last : List UInt8) (wr : World) : Prop where
 x : wr.heap[gx]? = some XV
 bx : wr.heap[gb]? = some (.cells #[.slice B r.length d] 22)
 lx : wr.heap[gl]? = some (.cells #[.slice LA last.length LC] 22)
 out : OwnPv wr n OA OC o
 hds : OwnS Nc 1 wr n 3 NA NC hs
 last : Own wr n 5 LA LC last
 rest : HBs wr n B r
 cap : r.length ≤ d ∧ d ≤ 9223372036854775807
 below : Below n w wr
 ge : n ≤ gb ∧ n ≤ gl ∧ gb ≠ gl
 sz : n ≤ wr.heap.size
theorem OwnS.keep_ne {α : Type} {f : α → List Value} {n base c gb gl : Nat} {w w' : World} {e : TypeId} {A : Option Addr} {l : List α} {x y : Value} (h : OwnS f n w base e A c l) (he : e ≠ 22) (hb : w.heap[gb]? = some (.cells #[x] 22)) (hg : w.heap[gl]? = some (.cells #[y] 22))
   (hk : ∀ k, k < w.heap.size → k ≠ gb → k ≠ gl → w'.heap[k]? = w.heap[k]?) : OwnS f n w' base e A c l := h.keep (fun g hgg => by
 obtain ⟨_, cs, fr, h1⟩ := ownS_tag h hgg
 exact hk g (Array.getElem?_eq_some_iff.1 h1).1 (tag_ne2 h1 hb he) (tag_ne2 h1 hg he))
theorem Own.keep_ne {base c gb gl : Nat} {w w' : World} {A : Option Addr} {l : List UInt8} {x y : Value} (h : Own w base 5 A c l) (hb : w.heap[gb]? = some (.cells #[x] 22)) (hg : w.heap[gl]? = some (.cells #[y] 22))
   (hk : ∀ k, k < w.heap.size → k ≠ gb → k ≠ gl → w'.heap[k]? = w.heap[k]?) : Own w' base 5 A c l := own_keep2 h (fun g hgg => by
 obtain ⟨_, cs, fr, h1⟩ := own_tag h hgg
 exact hk g (Array.getElem?_eq_some_iff.1 h1).1 (tag_ne2 h1 hb (by decide)) (tag_ne2 h1 hg (by decide)))
theorem OwnS.kept_ne {α : Type} {f : α → List Value} {n base c : Nat} {w w' : World} {e T : TypeId} {A : Option Addr} {l : List α} {row : Option Nat} (h : OwnS f n w base e A c l) (hg : w.grownBy w' row) (hr : ∀ g, row = some g → ∃ cs fr, w.heap[g]? = some (.cells cs T fr)) (hT : e ≠ T) : OwnS f n w' base e A c l := by
 refine h.kept hg ?_
 rcases hA : blk A with _ | g
 · exact .inl rfl
 · refine .inr (fun e2 => ?_)
   obtain ⟨_, cs, fr, h1⟩ := ownS_tag h hA
   obtain ⟨cs', fr', h2⟩ := hr g e2.symm
   exact tag_ne2 h1 h2 hT rfl
theorem OwnPv.kept_ne {base c : Nat} {w w' : World} {T : TypeId} {A : Option Addr} {l : List Pv} {row : Option Nat} (h : OwnPv w base A c l) (hg : w.grownBy w' row) (hr : ∀ g, row = some g → ∃ cs fr, w.heap[g]? = some (.cells cs T fr)) (hT : 77 ≠ T) (hT2 : T ≠ 5) : OwnPv w' base A c l := by
 have nob : NoB w row := fun g hg => by
   obtain ⟨cs, fr, h1⟩ := hr g hg
   exact ⟨cs, T, fr, h1, hT2⟩
 exact ⟨h.row.kept_ne hg hr hT, fun p hp => ⟨(h.own p hp).1.kept_tag hg nob, (h.own p hp).2.kept_tag hg nob⟩⟩
section
variable {w wr w' : World} {n gx gb gl d OC NC LC : Nat} {XV : Obj} {B OA NA LA : Option Addr} {r : List UInt8} {o : List Pv} {hs : List Nat} {last : List UInt8}
theorem PaI.call (h : PaI w n gx gb gl XV B d r OA OC o NA NC hs LA LC last wr) (hb : Below wr.heap.size wr w') : PaI w n gx gb gl XV B d r OA OC o NA NC hs LA LC last w' :=
 ⟨(hb.block _ (Array.getElem?_eq_some_iff.1 h.x).1).trans h.x, (hb.block _ (Array.getElem?_eq_some_iff.1 h.bx).1).trans h.bx, (hb.block _ (Array.getElem?_eq_some_iff.1 h.lx).1).trans h.lx, h.out.call hb, h.hds.below hb, h.last.below hb, h.rest.below hb, h.cap, h.below.trans (hb.mono h.sz), h.ge, Nat.le_trans h.sz hb.size⟩
theorem PaI.grow (h : PaI w n gx gb gl XV B d r OA OC o NA NC hs LA LC last wr) {row : Option Nat} {T : TypeId} (hT : T ≠ 5 ∧ T ≠ 22 ∧ ∀ cs fr, XV ≠ .cells cs T fr) (hr : ∀ g, row = some g → n ≤ g ∧ ∃ cs fr, wr.heap[g]? = some (.cells cs T fr)) (hg : wr.grownBy w' row)
   {OA' NA' : Option Addr} {OC' NC' : Nat} {o' : List Pv} {hs' : List Nat} (ho : OwnPv w' n OA' OC' o') (hh : OwnS Nc 1 w' n 3 NA' NC' hs') : PaI w n gx gb gl XV B d r OA' OC' o' NA' NC' hs' LA LC last w' := by
 have nob : NoB wr row := fun g hgg => by
   obtain ⟨_, cs, fr, h1⟩ := hr g hgg
   exact ⟨cs, T, fr, h1, hT.1⟩
 have ne1 : ∀ k cs fr, wr.heap[k]? = some (.cells cs 22 fr) → some k ≠ row := fun k cs fr hk e => by
   obtain ⟨_, cs', fr', h1⟩ := hr k e.symm
   exact tag_ne2 hk h1 (fun e => hT.2.1 e.symm) rfl
 have nex : some gx ≠ row := fun e => by
   obtain ⟨_, cs', fr', h1⟩ := hr gx e.symm
   rw [h.x] at h1
   injection h1 with h1
   exact hT.2.2 _ _ h1
 exact ⟨(hg.block _ (Array.getElem?_eq_some_iff.1 h.x).1 nex).trans h.x, (hg.block _ (Array.getElem?_eq_some_iff.1 h.bx).1 (ne1 _ _ _ h.bx)).trans h.bx, (hg.block _ (Array.getElem?_eq_some_iff.1 h.lx).1 (ne1 _ _ _ h.lx)).trans h.lx, ho, hh,
   h.last.kept_tag hg nob, h.rest.grown hg nob (fun g hgg => (hr g hgg).1), h.cap, h.below.grown hg h.sz (fun g hgg => (hr g hgg).1), h.ge, Nat.le_trans h.sz hg.size⟩
theorem PaI.next (h : PaI w n gx gb gl XV B d r OA OC o NA NC hs LA LC last wr) (hx : gx ≠ gb ∧ gx ≠ gl) {p : Pr} {R3 : List UInt8} {q : Pv} {B3 LA' : Option Addr} {d3 LC' : Nat} (hn : NextOk wr n gb gl p R3 q B3 d3 LA' LC' w') : PaI w n gx gb gl XV B3 d3 R3 OA OC o NA NC hs LA' LC' p.k w' := by
 refine ⟨(hn.keep _ (Array.getElem?_eq_some_iff.1 h.x).1 hx.1 hx.2).trans h.x, hn.bx, hn.lx, ⟨h.out.row.keep_ne (by decide) h.bx h.lx hn.keep, fun q hq => ⟨(h.out.own q hq).1.keep_ne h.bx h.lx hn.keep, (h.out.own q hq).2.keep_ne h.bx h.lx hn.keep⟩⟩, h.hds.keep_ne (by decide) h.bx h.lx hn.keep, hn.last.mono h.sz, hn.rest, hn.cap, h.below.trans hn.below, h.ge, Nat.le_trans h.sz hn.size⟩
end
namespace Blk
theorem ents_snoc (E : Nat) : ∀ (l : List Pr) (i : Nat) (last : List UInt8) (m : List Pr), ents E i last (l ++ m) = ents E i last l ++ ents E (i + l.length) ((l.getLast?.map Pr.k).getD last) m := by
 intro l
 induction l with
 | nil => intro i last m; simp [ents]
 | cons p l ih =>
   intro i last m
   rw [List.cons_append, ents, ents, ih, List.append_assoc, List.length_cons]
   congr 2
   rw [show i + 1 + l.length = i + (l.length + 1) by omega]
   congr 1
   cases l with
   | nil => simp
   | cons q l =>
     rw [List.getLast?_cons_cons, List.getLast?_eq_some_getLast (by simp : q :: l ≠ [])]
     rfl
theorem hds_snoc (E : Nat) : ∀ (l : List Pr) (i o : Nat) (last : List UInt8) (p : Pr), hds E i o last (l ++ [p]) = hds E i o last l ++ (if (i + l.length) % E = 0 then [o + (ents E i last l).length] else []) := by
 intro l
 induction l with
 | nil => intro i o last p; simp [hds, ents]
 | cons q l ih =>
   intro i o last p
   rw [List.cons_append, hds, ih, hds, List.append_assoc, List.length_cons, ents, List.length_append]
   congr 2
   rw [show i + 1 + l.length = i + (l.length + 1) by omega, Nat.add_assoc o]
theorem WRel.off {b last rest : List UInt8} {o : List Pr} (h : WRel b o last rest) (hk : lastK o = last) {l0 : List Pr} (hw : WFb b l0) : b.length - 5 - 4 * many b = (ents 16 0 [] o).length + rest.length := by
 obtain ⟨l2, e1, e2⟩ := h l0 hw
 obtain ⟨_, _, _, h4, h5, _⟩ := tail_of hw
 have h6 := congrArg List.length h5
 rw [e1, ents_snoc, List.length_append, List.length_take] at h6
 have h7 : (o.getLast?.map Pr.k).getD [] = last := hk
 rw [h7, Nat.zero_add, ← e2] at h6
 omega
def HRel (b : List UInt8) (o : List Pr) (hs : List Nat) : Prop := ∀ l0, WFb b l0 → hs = hds 16 0 0 [] o
theorem HRel.step {b last rest : List UInt8} {o : List Pr} {hs : List Nat} {p : Pr} {Z : Nat} (h : HRel b o hs) (hr : WRel b o last rest) (hk : lastK o = last) (hZ : Z = b.length - 5 - 4 * many b) : HRel b (o ++ [p]) (hs ++ (if o.length % 16 = 0 then [Z - rest.length] else [])) := fun l0 hw => by
 rw [hds_snoc, ← h l0 hw, Nat.zero_add, Nat.zero_add]
 have := hr.off hk hw
 rw [show Z - rest.length = (ents 16 0 [] o).length by omega]
end Blk
set_option maxHeartbeats 4000000 in
set_option maxRecDepth 100000 in
theorem parse_any (A : Option Addr) (c : Nat) (b : List UInt8) (w : World) (h : RdB w w.heap.size A b) (hl : b.length ≤ 65536) (hc : b.length ≤ c) (hcc : c ≤ 9223372036854775807) :
   Calls Tryz.prog 25 #[.slice A b.length c] w (ParsedP w b) := by
 have HH := hid h
 have KS := hid (split_any A c b w h hl hc hcc)
 clear h
 go_enter Tryz.func25, Tryz.ntmps25
 go_wp2_with fail
 refine KS.out.mono ?_
 rintro e w1 ⟨hb1, ⟨rfl, hno⟩ | ⟨HA, HC, ev, rfl, h5, hown, hev1, hev2, h16⟩⟩
 · have HG := hid (fun o => parsed_no (b := b) (hb1.trans ((((Below.refl w1.heap.size w1).alloc (Nat.le_refl _) o)).mono hb1.size)) 3 (by decide) hno)
   clear hb1 hno
   go_wp2_with fail
   go_ret2
   exact HG.out _
 · obtain ⟨Z, hZ⟩ : ∃ Z, Z = b.length - 5 - 4 * Blk.many b := ⟨_, rfl⟩
   obtain ⟨M, hM⟩ : ∃ M, M = (Blk.headsOf b (Blk.many b)).length := ⟨_, rfl⟩
   rw [← hZ, ← hM]
   have HB1 := hid hb1
   have HOWN := hid hown
   have H16 := hid h16
   have HZM : Hid (Z = b.length - 5 - 4 * Blk.many b ∧ M = (Blk.headsOf b (Blk.many b)).length) := hid ⟨hZ, hM⟩
   have hZb : Z ≤ b.length := by omega
   clear hb1 hown h16 hZ hM h5
   go_wp2_with fail
   obtain ⟨X0, hX0⟩ : ∃ X0, X0 = w1.alloc (.cells #[.slice A Z c, .slice HA M HC, .int .i64 (ev : Int)] 130) := ⟨_, rfl⟩
   have hx0 : X0.heap[w1.heap.size]? = some (.cells #[.slice A Z c, .slice HA M HC, .int .i64 (ev : Int)] 130) := by rw [hX0]; exact heap_alloc_new _ _
   have hz0 : X0.heap.size = w1.heap.size + 1 := by rw [hX0]; simp
   have hb0 : Below w1.heap.size w1 X0 := by rw [hX0]; exact (Below.refl _ _).alloc (Nat.le_refl _) _
   rw [← hX0]
   have HX0 := hid hx0
   have HZ0 := hid hz0
   have HB0 := hid hb0
   have HKEEP : Hid (∀ w', Below X0.heap.size X0 w' → w'.cell? ⟨w1.heap.size, 0, none⟩ = some (.slice A Z c) ∧ Below X0.heap.size X0 w') := hid (fun w' hb => ⟨by
     rw [cell_of_row w' w1.heap.size 0 _ _ (0, 0) ((hb.block _ (by omega)).trans hx0)]; rfl, hb⟩)
   clear hX0 hx0 hz0 hb0
   go_region_held (fun w' => w'.cell? ⟨w1.heap.size, 0, none⟩ = some (.slice A Z c) ∧ Below X0.heap.size X0 w') (first | exact HKEEP.out _ ((Below.refl _ _).drew) | exact HKEEP.out _ ((((Below.refl X0.heap.size X0).alloc (Nat.le_refl _) _).alloc (by simp) _).drew) | exact HKEEP.out _ (((Below.refl X0.heap.size X0).alloc (Nat.le_refl _) _).alloc (by simp) _))
     (first | (go_at_call 58; refine (pairs_any A Z c _).mono ?_; rintro e w2 ⟨rfl, rfl⟩))
   obtain ⟨W6, hW6⟩ : ∃ W6, W6 = ((X0.alloc (.cells #[.slice A Z c] 22)).alloc (.cells #[.slice none 0 0] 22)).drew := ⟨_, rfl⟩
   rw [← hW6]
   have hb6 : Below X0.heap.size X0 W6 := by rw [hW6]; exact (((Below.refl X0.heap.size X0).alloc (Nat.le_refl _) _).alloc (by simp) _).drew
   have y0 : W6.heap[X0.heap.size]? = some (.cells #[.slice A Z c] 22) := by
     rw [hW6]
     show ((X0.alloc (.cells #[.slice A Z c] 22)).alloc (.cells #[.slice none 0 0] 22)).heap[X0.heap.size]? = _
     rw [heap_alloc_old _ _ (by simp)]; exact heap_alloc_new _ _
   have y1 : W6.heap[X0.heap.size + 1]? = some (.cells #[.slice none 0 0] 22) := by
     rw [hW6]
     show ((X0.alloc (.cells #[.slice A Z c] 22)).alloc (.cells #[.slice none 0 0] 22)).heap[X0.heap.size + 1]? = _
     have := heap_alloc_new (X0.alloc (.cells #[.slice A Z c] 22)) (.cells #[.slice none 0 0] 22)
     simpa using this
   have y2 := (hb6.block _ (by have := HZ0.out; omega)).trans HX0.out
   have hb16 : Below w1.heap.size w1 W6 := HB0.out.trans (hb6.mono HB0.out.size)
   have hbw6 : Below w.heap.size w W6 := HB1.out.trans (hb16.mono HB1.out.size)
   have hzl : (b.take Z).length = Z := by rw [List.length_take]; omega
   obtain ⟨r0, hr0⟩ : ∃ r0, r0 = b.take Z := ⟨_, rfl⟩
   have hrl : r0.length = Z := by rw [hr0]; exact hzl
   have hHB : HBs W6 X0.heap.size A r0 := ⟨by rw [hr0]; exact ((HH.out.take hZb).below hbw6 (Nat.le_refl _)).more hbw6.size, fun hne g hg => by
     have hb0 : 0 < b.length := by
       rcases Nat.eq_zero_or_pos b.length with h0 | h0
       · exfalso; apply hne; rw [hr0, List.eq_nil_of_length_eq_zero h0]; simp
       · exact h0
     obtain ⟨ad, e, h1, _⟩ := HH.out.2 hb0
     rw [e] at hg
     have : ad.block = g := by simpa [blk] using hg
     exact .inl (by have := HB1.out.size; have := HZ0.out; omega)⟩
   have HI0 : Hid (PaI W6 X0.heap.size w1.heap.size X0.heap.size (X0.heap.size + 1) (.cells #[.slice A Z c, .slice HA M HC, .int .i64 (ev : Int)] 130) A c r0 none 0 [] none 0 [] none 0 [] W6) := hid
     ⟨y2, by rw [hrl]; exact y0, y1, OwnPv.nil, OwnS.nil _ _ _, Own.nil _ _ _, hHB, ⟨by omega, hcc⟩, Below.refl _ _, ⟨by omega, by omega, by omega⟩, hb6.size⟩
   have HBW : Hid (∀ wr, Below X0.heap.size W6 wr → Below w.heap.size w wr) := hid (fun wr hb => hbw6.trans (hb.mono (by have := HB1.out.size; have := HZ0.out; omega)))
   have HXH : Hid (∀ wr, Below X0.heap.size W6 wr → RdS Nc 1 wr wr.heap.size HA (Blk.headsOf b (Blk.many b))) := hid (fun wr hb => by
     have hb1r : Below w1.heap.size w1 wr := hb16.trans (hb.mono (by have := HZ0.out; omega))
     exact (HOWN.out.rd.below hb1r (Nat.le_refl _)).more hb1r.size)
   have HW0 : Hid (Blk.WRel b [] [] r0) := hid (by have := Blk.WRel.start (b := b); rw [← HZM.out.1] at this; rwa [hr0])
   have HRL := hid hrl
   obtain ⟨gx, hgx⟩ : ∃ gx, gx = w1.heap.size := ⟨_, rfl⟩
   obtain ⟨gb, hgb⟩ : ∃ gb, gb = X0.heap.size := ⟨_, rfl⟩
   rw [← hgx, ← hgb] at HI0
   rw [← hgb] at HBW HXH
   have HGE : Hid (w.heap.size ≤ gb) := hid (by have := HB1.out.size; have := HZ0.out; omega)
   rw [← hgx, ← hgb]
   have HLT : Hid (w1.heap.size ≤ gx ∧ gx < gb) := hid ⟨by omega, by have := HZ0.out; omega⟩
   clear hW6 hb6 y0 y1 y2 hb16 hbw6 hzl hHB hr0 hgx hgb HKEEP
   go_wp2_with fail
   rw [show Value.slice A Z c = Value.slice A r0.length c by rw [HRL.out]]
   clear hrl
   obtain ⟨XV, hXV⟩ : ∃ XV : Obj, XV = .cells #[.slice A Z c, .slice HA M HC, .int .i64 (ev : Int)] 130 := ⟨_, rfl⟩
   rw [← hXV] at HI0
   have HXV := hid hXV
   clear hXV HX0 HZ0 HB0
   go_loopw [6, 7, 9] (fun oo hh ll wr => ∃ (B : Option Addr) (d : Nat) (r : List UInt8) (OA : Option Addr) (OC : Nat) (o : List Pv) (NA : Option Addr) (NC : Nat) (hs : List Nat) (LA : Option Addr) (LC : Nat) (last : List UInt8), oo = .slice OA o.length OC ∧ hh = .slice NA hs.length NC ∧ ll = .slice B r.length d ∧
     Hid (PaI W6 gb gx gb (gb + 1) XV B d r OA OC o NA NC hs LA LC last wr) ∧ Hid (Blk.WRel b (o.map Pv.pr) last r ∧ Blk.lastK (o.map Pv.pr) = last ∧ (ev = 16 → Blk.HRel b (o.map Pv.pr) hs)) ∧ Hid (o.length + r.length ≤ Z ∧ last.length + r.length ≤ Z ∧ hs.length ≤ o.length ∧ ∀ p ∈ o, p.k.length ≤ Z ∧ p.v.length ≤ Z)) (fun _ _ ll _ => (match ll with | .slice _ n _ => n | _ => 0))
   case atStart => exact ⟨A, c, r0, none, 0, [], none, 0, [], none, 0, [], rfl, rfl, rfl, HI0, hid ⟨HW0.out, rfl, fun _ l0 _ => rfl⟩, hid ⟨by simp [HRL.out], by simp [HRL.out], by simp, fun p hp => by cases hp⟩⟩
   case round =>
     obtain ⟨B, d, r, OA, OC, o, NA, NC, hs, LA, LC, last, rfl, rfl, rfl, HI, HW, HL⟩ := hrel
     have hL := HL.out
     by_cases hr : r = []
     · subst hr
       have x1 : wr.cell? ⟨gx, 1, none⟩ = some (.slice HA M HC) := by
         have h1 := HI.out.x
         rw [HXV.out] at h1
         rw [cell_of_row wr gx 1 _ _ (0, 0) h1]; rfl
       have KE := hid (eqn_any NA NC hs HA HC (Blk.headsOf b (Blk.many b)) wr HI.out.hds.rd (HXH.out wr HI.out.below) (by omega))
       rw [← HZM.out.2] at KE
       have HFIN : Hid (∀ l0, Blk.WFb b l0 → l0 = o.map Pv.pr) := hid (fun l0 hw => HW.out.1.fin hw)
       have HHE : Hid (∀ l0, Blk.WFb b l0 → hs = Blk.headsOf b (Blk.many b)) := hid (fun l0 hw => by
         rw [HW.out.2.2 (H16.out l0 hw) l0 hw, Blk.heads_wf hw (by omega), ← HFIN.out l0 hw])
       obtain ⟨eq, heq⟩ : ∃ eq, eq = (hs == Blk.headsOf b (Blk.many b)) := ⟨_, rfl⟩
       rw [← heq] at KE
       have HEQ := hid heq
       clear heq
       go_wp2_with fail
       refine KE.out.mono ?_
       rintro e w5 ⟨rfl, hb5⟩
       have HB5 := hid (HBW.out _ (HI.out.below.trans (hb5.mono HI.out.sz)))
       have HO5 := hid ((HI.out.out.call hb5).mono HGE.out)
       clear hb5 x1
       rcases eq with _ | _
       · have HG := hid (parsed_no (b := b) HB5.out 3 (by decide) (fun l0 hw => by
           have h1 := HEQ.out
           rw [HHE.out l0 hw] at h1
           simp at h1))
         go_wp2_with fail
         go_ret2
         exact HG.out
       · by_cases hmany : (20000 : Int) < (o.length : Int)
         · have HG := hid (parsed_no (b := b) HB5.out 3 (by decide) (fun l0 hw => by
             have h1 := hw.few.1
             rw [HFIN.out l0 hw, List.length_map] at h1
             omega))
           go_wp2_with fail
           go_ret2
           exact HG.out
         · go_wp2_with fail
           go_ret2
           exact ⟨HB5.out, .inr ⟨o, OA, OC, rfl, HO5.out, by omega, fun p hp => by have := HL.out.2.2.2 p hp; omega, HFIN.out⟩⟩
     have hrp : 0 < r.length := List.length_pos_iff.2 hr
     have x2 : wr.cell? ⟨gx, 2, none⟩ = some (.int .i64 (ev : Int)) := by
       have h1 := HI.out.x
       rw [HXV.out] at h1
       rw [cell_of_row wr gx 2 _ _ (0, 0) h1]; rfl
     have hev0 : ¬ ((ev : Int) = 0) := by omega
     by_cases hhd : o.length % ev = 0
     · have hq1 : (o.length : Int) % (ev : Int) = 0 := by omega
       have x0 : wr.cell? ⟨gx, 0, none⟩ = some (.slice A Z c) := by
         have h1 := HI.out.x
         rw [HXV.out] at h1
         rw [cell_of_row wr gx 0 _ _ (0, 0) h1]; rfl
       obtain ⟨hv, hhv⟩ : ∃ hv, hv = Z - r.length := ⟨_, rfl⟩
       have hzr : (Z : Int) - (r.length : Int) = (hv : Int) := by omega
       have HHV := hid hhv
       have hwz := HI.out.sz
       clear hhv
       go_wp2_with (at_builtin; refine wpList_append_s _ rfl _ _ intT rfl gb NA NC hs rfl (HI.out.hds.alloc _) (wr.heap.size + 1) (some ⟨wr.heap.size, 0, none⟩) 1 1 [hv] rfl rfl (rd_int_new wr hv) (by simp; omega) (by unfold maxLen; simp; omega) (by simp; omega) ?_)
       intro NA2 NC2 hs2 wq hL2 ho2 hg2 hat2
       have hrow : ∀ g, blk NA = some g → gb ≤ g ∧ ∃ cs fr, (wr.alloc (.cells #[.int .i64 (hv : Int)] 3)).heap[g]? = some (.cells cs 3 fr) := fun g hg => ownS_tag (HI.out.hds.alloc _) hg
       have hIa := HI.out.call ((Below.refl wr.heap.size wr).alloc (Nat.le_refl _) (.cells #[.int .i64 (hv : Int)] 3))
       have HI2 : Hid (PaI W6 gb gx gb (gb + 1) XV B d r OA OC o NA2 NC2 hs2 LA LC last wq) := hid (hIa.grow ⟨by decide, by decide, fun cs fr e => by rw [HXV.out] at e; injection e with _ e2; exact absurd e2 (by decide)⟩ hrow hg2 (hIa.out.kept_ne hg2 (fun g hg => (hrow g hg).2) (by decide) (by decide)) (by rw [hL2] at ho2 ⊢; exact ho2))
       have HHS : Hid (hs2 = hs ++ [hv] ∧ hs2.length = hs.length + 1) := hid ⟨hL2, by rw [hL2]; simp⟩
       have hhl : hs2.length ≤ hs.length + 1 := Nat.le_of_eq HHS.out.2
       clear hL2 ho2 hg2 hat2 hrow hIa x0 x2 hzr
       have HHB : Hid (∀ l0, Blk.WFb b l0 → (o.length % 16 == 0) = true) := hid (fun l0 hw => by
         have h1 := H16.out l0 hw
         rw [← h1]; simpa using hhd)
       have KT := next_true gb (gb + 1) gb r B d last LA LC wq HI2.out.bx HI2.out.lx HI2.out.rest HI2.out.cap.1 HI2.out.cap.2 HI2.out.last HI2.out.ge.2.2 HI2.out.ge.1 HI2.out.ge.2.1 (by omega) (by omega) hr
       cases hn : Blk.nextP true last r with
       | none =>
         rw [hn] at KT
         have HK := hid KT
         have HNO : Hid (∀ l0, ¬ Blk.WFb b l0) := hid (fun l0 hw => HW.out.1.noP hr (by omega) HW.out.2.1 (by rw [List.length_map, HHB.out l0 hw]; exact hn) l0 hw)
         clear KT hn
         go_wp2_with fail
         refine HK.out.mono ?_
         rintro e w4 ⟨x, hx, rfl, hb4⟩
         have hx1 : (x == 0) = false := by simpa using hx
         have hx2 : (x != 0) = true := by simpa using hx
         have HB4 := hid (HBW.out _ (HI2.out.below.trans (hb4.mono HI2.out.sz)))
         clear hb4 hx
         go_wp2_with fail
         go_quiet (fail)
         refine drewN_any ?_
         intro X hbX hXh
         clear hXh
         have HG := hid (parsed_no (b := b) (((HB4.out.alloc HB4.out.size (.cells #[.slice none 0 0, .slice none 0 0] 77)).trans (hbX.mono (by have := HB4.out.size; simp; omega)))) 3 (by decide) HNO.out)
         clear hbX
         go_wp2_with fail
         go_ret2
         exact HG.out
       | some v =>
         obtain ⟨p, R3⟩ := v
         rw [hn] at KT
         have HK := hid KT
         have HN : Hid (∀ l0, Blk.WFb b l0 → Blk.nextP ((o.map Pv.pr).length % 16 == 0) last r = some (p, R3)) := hid (fun l0 hw => by rw [List.length_map, HHB.out l0 hw]; exact hn)
         have hnl := Blk.nextP_len hn
         clear KT hn
         go_wp2_with fail
         refine HK.out.mono ?_
         rintro e w4 ⟨q, B3, d3, LA2, LC2, rfl, hok⟩
         have HI4 := hid (HI2.out.next ⟨by have := HLT.out; omega, by have := HLT.out; omega⟩ hok)
         have HQK := hid (hok.key.mono HI2.out.sz)
         have HQV := hid (hok.val.mono HI2.out.sz)
         have HQP := hid hok.pr
         clear hok
         obtain ⟨W4, hW4⟩ : ∃ W4, W4 = w4.alloc (.cells #[.slice q.kA q.k.length q.kc, .slice q.vA q.v.length q.vc] 77) := ⟨_, rfl⟩
         have hba : Below w4.heap.size w4 W4 := by rw [hW4]; exact (Below.refl _ _).alloc (Nat.le_refl _) _
         have hpx : W4.heap[w4.heap.size]? = some (.cells #[.slice q.kA q.k.length q.kc, .slice q.vA q.v.length q.vc] 77) := by rw [hW4]; exact heap_alloc_new _ _
         have HI5 := hid (HI4.out.call hba)
         have HQK5 := hid (HQK.out.below hba)
         have HQV5 := hid (HQV.out.below hba)
         have HPX := hid hpx
         have p0 := cell_of_row W4 w4.heap.size 0 _ _ (0, 0) hpx
         have p1 := cell_of_row W4 w4.heap.size 1 _ _ (0, 0) hpx
         simp only [List.getElem?_toArray, List.getElem?_cons_zero, List.getElem?_cons_succ] at p0 p1
         have HW4 := hid hW4
         have HKK : Hid (q.k = p.k) := hid (by rw [← HQP.out]; rfl)
         clear hba hpx hW4 HI4 HQK HQV
         go_wp2_with fail
         rw [← HW4.out]
         by_cases hp0 : 0 < o.length
         case' neg =>
           have hol : decide ((0 : Int) < (o.length : Int)) = false := decide_eq_false (by omega)
           have hol2 : ¬ ((0 : Int) < (o.length : Int)) := by omega
           go_quiet (fail)
           refine drewN_any ?_
           intro X hbX hXh
           clear hXh
         case' pos =>
           obtain ⟨n0, ho0⟩ : ∃ n0, o.length = n0 + 1 := ⟨o.length - 1, by omega⟩
           obtain ⟨ob, ooff, hOA, hobl, hrow⟩ := HI5.out.out.rd.row2 (by omega)
           have c0 := (hrow n0 (by omega)).1
           obtain ⟨ol, hol⟩ : ∃ ol, ol = o[n0]'(by omega) := ⟨_, rfl⟩
           rw [← hol] at c0
           have HLK : Hid (Blk.lastK (o.map Pv.pr) = ol.k) := hid (by
             unfold Blk.lastK
             rw [List.getLast?_map, List.getLast?_eq_getElem?, show o.length - 1 = n0 by omega, List.getElem?_eq_getElem (by omega), hol]
             rfl)
           have hrdl := (HI5.out.out.own ol (by rw [hol]; exact List.getElem_mem _)).1.rd
           have nq1 : IntKind.i64.wrap ((o.length : Int) - 1) = (n0 : Int) := by rw [IntKind.wrap_i64]; omega
           have nq2 : (0 : Int) ≤ (n0 : Int) := by omega
           have nq3 : (n0 : Int) < (o.length : Int) := by omega
           have nq4 : decide ((0 : Int) < (o.length : Int)) = true := decide_eq_true (by omega)
           have nq5 : (0 : Int) < (o.length : Int) := by omega
           obtain ⟨CV, hCV⟩ : ∃ CV, CV = Lib.compareBytes q.k ol.k := ⟨_, rfl⟩
           have KCV : Hid (∀ n, Calls Tryz.prog 59 #[.slice q.kA q.k.length q.kc, .slice ol.kA ol.k.length ol.kc] (W4.drewN n) fun e w' => e = .returned (.int .i64 CV) ∧ w' = W4.drewN n) := hid (fun n => by
             rw [hCV]
             exact (bcmp_any W4.heap.size q.kA q.kc q.k W4.heap.size ol.kA ol.kc ol.k (W4.drewN n) (Reads.drewN HQK5.out.rd n) (Reads.drewN hrdl n)).mono (fun e w' h => ⟨h.1, h.2.symm⟩))
           have HCV := hid hCV
           subst hOA
           have HO0 := hid ho0
           clear hCV hrow hol hrdl ho0
           by_cases hcv : CV ≤ 0
           case' pos =>
             have hcv2 : decide (CV ≤ 0) = true := decide_eq_true hcv
             have HNO : Hid (∀ l0, ¬ Blk.WFb b l0) := hid (fun l0 hw => by
               obtain ⟨p', l2, e1, e2⟩ := HW.out.1.nextP hr (by omega) HW.out.2.1 hw
               rw [HN.out l0 hw] at e2
               injection e2 with e2; injection e2 with e3 e4
               subst e3
               have h1 := Blk.srt_at (e1 ▸ hw.few.2) (by rw [List.length_map, HO0.out]; omega)
               rw [HLK.out] at h1
               have h2 := hcv
               rw [HCV.out, compareBytes_le, HKK.out, h1] at h2
               cases h2)
             clear hcv
             go_quiet ((go_at_call 59; exact Calls.quiet_of_same (KCV.out _)))
             refine drewN_any ?_
             intro X hbX hXh
             clear hXh
             have HG := hid (parsed_no (b := b) (HBW.out _ (HI5.out.below.trans (hbX.mono HI5.out.sz))) 3 (by decide) HNO.out)
             clear hbX
             go_wp2_with fail
             go_ret2
             exact HG.out
           have hcv2 : decide (CV ≤ 0) = false := decide_eq_false hcv
           clear hcv
           go_quiet ((go_at_call 59; exact Calls.quiet_of_same (KCV.out _)))
           refine drewN_any ?_
           intro X hbX hXh
           clear hXh
         case pos =>
           have HI6 := hid (HI5.out.call hbX)
           have HQK6 := hid (HQK5.out.below hbX)
           have HQV6 := hid (HQV5.out.below hbX)
           have hpx := (hbX.block _ (Array.getElem?_eq_some_iff.1 HPX.out).1).trans HPX.out
           have p0 := cell_of_row X w4.heap.size 0 _ _ (0, 0) hpx
           have p1 := cell_of_row X w4.heap.size 1 _ _ (0, 0) hpx
           simp only [List.getElem?_toArray, List.getElem?_cons_zero, List.getElem?_cons_succ] at p0 p1
           have hsz := HI6.out.sz
           have HX1 : Hid ((o.length + [q].length) * 48 ≤ 140737488355328) := hid (by simp; omega)
           have HX2 : Hid (o.length + [q].length ≤ maxLen) := hid (by unfold maxLen; simp; omega)
           have HX4 : Hid (∀ ob, gb ≤ (X.alloc ob).heap.size) := hid (fun ob => by simp; omega)
           have HX3 := hid HI6.out.out.row
           clear hbX hpx
           go_wp2_with (at_builtin; refine wpList_append_s _ rfl (.tmp 72) (.tmp 74) pairT rfl gb (some ⟨ob, ooff, none⟩) OC o rfl (HX3.out.alloc _) (X.heap.size + 1) (some ⟨X.heap.size, 0, none⟩) 1 1 [q] rfl rfl (rd_pair_new X q) HX1.out HX2.out (HX4.out _) ?_)
           intro OA' OC' o' w9 ho' hoS hgS hatS
           have hIa := HI6.out.call ((Below.refl X.heap.size X).alloc (Nat.le_refl _) (.cells #[.slice q.kA q.k.length q.kc, .slice q.vA q.v.length q.vc] 77))
           have hrow := fun g hg => ownS_tag (g := g) hIa.out.row hg
           rw [ho'] at hoS
           have HO9 := hIa.out.app (p := q) (HQK6.out.alloc _) (HQV6.out.alloc _) hoS hgS
           have HH9 := hIa.hds.kept_ne hgS (fun g hg => (hrow g hg).2) (by decide)
           have HI9 := hid (hIa.grow ⟨by decide, by decide, fun cs fr e => by rw [HXV.out] at e; injection e with _ e2; exact absurd e2 (by decide)⟩ hrow hgS HO9 HH9)
           rw [← ho'] at HI9
           have HM9 : Hid (o'.map Pv.pr = o.map Pv.pr ++ [p]) := hid (by rw [ho', List.map_append, List.map_cons, HQP.out]; rfl)
           have HLN9 : Hid (o'.length = o.length + 1 ∧ ∀ x ∈ o', x ∈ o ∨ x = q) := hid ⟨by rw [ho']; simp, fun x hx => by
             rw [ho'] at hx
             simpa using hx⟩
           clear ho' hoS hgS hatS hIa hrow HO9 HH9
           have HW9 : Hid (Blk.WRel b (o'.map Pv.pr) p.k R3 ∧ Blk.lastK (o'.map Pv.pr) = p.k ∧ (ev = 16 → Blk.HRel b (o'.map Pv.pr) hs2)) := hid (by
             rw [HM9.out]
             refine ⟨fun l0 hw => (HW.out.1.stepP hr (by omega) HW.out.2.1 (HN.out l0 hw)) l0 hw, Blk.lastK_snoc _ _, fun h16 => ?_⟩
             have h1 := (HW.out.2.2 h16).step (p := p) HW.out.1 HW.out.2.1 HZM.out.1
             rw [List.length_map] at h1
             rw [if_pos (by rw [← h16]; exact hhd)] at h1
             rw [HHS.out.1, HHV.out]; exact h1)
           have HL9 : Hid (o'.length + R3.length ≤ Z ∧ p.k.length + R3.length ≤ Z ∧ hs2.length ≤ o'.length ∧ ∀ x ∈ o', x.k.length ≤ Z ∧ x.v.length ≤ Z) := hid (by
             have h1 := HLN9.out.1
             refine ⟨by omega, by omega, by omega, fun x hx => ?_⟩
             rcases HLN9.out.2 x hx with h2 | h2
             · exact HL.out.2.2.2 x h2
             · have h3 : q.v = p.v := by rw [← HQP.out]; rfl
               rw [h2, HKK.out, h3]
               exact ⟨by omega, by omega⟩)
           have hmes : R3.length < r.length := by omega
           go_wp2_with fail
           go_roundw
           case rel => exact ⟨B3, d3, R3, OA', OC', o', NA2, NC2, hs2, LA2, LC2, p.k, rfl, rfl, rfl, HI9, HW9, HL9⟩
           case measure => simpa using hmes
         case neg =>
           have HI6 := hid (HI5.out.call hbX)
           have HQK6 := hid (HQK5.out.below hbX)
           have HQV6 := hid (HQV5.out.below hbX)
           have hpx := (hbX.block _ (Array.getElem?_eq_some_iff.1 HPX.out).1).trans HPX.out
           have p0 := cell_of_row X w4.heap.size 0 _ _ (0, 0) hpx
           have p1 := cell_of_row X w4.heap.size 1 _ _ (0, 0) hpx
           simp only [List.getElem?_toArray, List.getElem?_cons_zero, List.getElem?_cons_succ] at p0 p1
           have hsz := HI6.out.sz
           have HX1 : Hid ((o.length + [q].length) * 48 ≤ 140737488355328) := hid (by simp; omega)
           have HX2 : Hid (o.length + [q].length ≤ maxLen) := hid (by unfold maxLen; simp; omega)
           have HX4 : Hid (∀ ob, gb ≤ (X.alloc ob).heap.size) := hid (fun ob => by simp; omega)
           have HX3 := hid HI6.out.out.row
           clear hbX hpx
           go_wp2_with (at_builtin; refine wpList_append_s _ rfl (.tmp 72) (.tmp 74) pairT rfl gb OA OC o rfl (HX3.out.alloc _) (X.heap.size + 1) (some ⟨X.heap.size, 0, none⟩) 1 1 [q] rfl rfl (rd_pair_new X q) HX1.out HX2.out (HX4.out _) ?_)
           intro OA' OC' o' w9 ho' hoS hgS hatS
           have hIa := HI6.out.call ((Below.refl X.heap.size X).alloc (Nat.le_refl _) (.cells #[.slice q.kA q.k.length q.kc, .slice q.vA q.v.length q.vc] 77))
           have hrow := fun g hg => ownS_tag (g := g) hIa.out.row hg
           rw [ho'] at hoS
           have HO9 := hIa.out.app (p := q) (HQK6.out.alloc _) (HQV6.out.alloc _) hoS hgS
           have HH9 := hIa.hds.kept_ne hgS (fun g hg => (hrow g hg).2) (by decide)
           have HI9 := hid (hIa.grow ⟨by decide, by decide, fun cs fr e => by rw [HXV.out] at e; injection e with _ e2; exact absurd e2 (by decide)⟩ hrow hgS HO9 HH9)
           rw [← ho'] at HI9
           have HM9 : Hid (o'.map Pv.pr = o.map Pv.pr ++ [p]) := hid (by rw [ho', List.map_append, List.map_cons, HQP.out]; rfl)
           have HLN9 : Hid (o'.length = o.length + 1 ∧ ∀ x ∈ o', x ∈ o ∨ x = q) := hid ⟨by rw [ho']; simp, fun x hx => by
             rw [ho'] at hx
             simpa using hx⟩
           clear ho' hoS hgS hatS hIa hrow HO9 HH9
           have HW9 : Hid (Blk.WRel b (o'.map Pv.pr) p.k R3 ∧ Blk.lastK (o'.map Pv.pr) = p.k ∧ (ev = 16 → Blk.HRel b (o'.map Pv.pr) hs2)) := hid (by
             rw [HM9.out]
             refine ⟨fun l0 hw => (HW.out.1.stepP hr (by omega) HW.out.2.1 (HN.out l0 hw)) l0 hw, Blk.lastK_snoc _ _, fun h16 => ?_⟩
             have h1 := (HW.out.2.2 h16).step (p := p) HW.out.1 HW.out.2.1 HZM.out.1
             rw [List.length_map] at h1
             rw [if_pos (by rw [← h16]; exact hhd)] at h1
             rw [HHS.out.1, HHV.out]; exact h1)
           have HL9 : Hid (o'.length + R3.length ≤ Z ∧ p.k.length + R3.length ≤ Z ∧ hs2.length ≤ o'.length ∧ ∀ x ∈ o', x.k.length ≤ Z ∧ x.v.length ≤ Z) := hid (by
             have h1 := HLN9.out.1
             refine ⟨by omega, by omega, by omega, fun x hx => ?_⟩
             rcases HLN9.out.2 x hx with h2 | h2
             · exact HL.out.2.2.2 x h2
             · have h3 : q.v = p.v := by rw [← HQP.out]; rfl
               rw [h2, HKK.out, h3]
               exact ⟨by omega, by omega⟩)
           have hmes : R3.length < r.length := by omega
           go_wp2_with fail
           go_roundw
           case rel => exact ⟨B3, d3, R3, OA', OC', o', NA2, NC2, hs2, LA2, LC2, p.k, rfl, rfl, rfl, HI9, HW9, HL9⟩
           case measure => simpa using hmes
       
     · have hq1 : (((o.length : Int) % (ev : Int)) == 0) = false := by simp; omega
       obtain ⟨wq, hwq⟩ : ∃ wq, wq = wr := ⟨_, rfl⟩
       subst hwq
       have HI2 := hid HI.out
       have HHB : Hid (∀ l0, Blk.WFb b l0 → (o.length % 16 == 0) = false) := hid (fun l0 hw => by
         have h1 := H16.out l0 hw
         rw [← h1]; simpa using hhd)
       have KT := next_false gb (gb + 1) gb r B d last LA LC wq HI2.out.bx HI2.out.lx HI2.out.rest HI2.out.cap.1 HI2.out.cap.2 HI2.out.last HI2.out.ge.2.2 HI2.out.ge.1 HI2.out.ge.2.1 (by omega) (by omega) hr
       cases hn : Blk.nextP false last r with
       | none =>
         rw [hn] at KT
         have HK := hid KT
         have HNO : Hid (∀ l0, ¬ Blk.WFb b l0) := hid (fun l0 hw => HW.out.1.noP hr (by omega) HW.out.2.1 (by rw [List.length_map, HHB.out l0 hw]; exact hn) l0 hw)
         clear KT hn
         go_wp2_with fail
         refine HK.out.mono ?_
         rintro e w4 ⟨x, hx, rfl, hb4⟩
         have hx1 : (x == 0) = false := by simpa using hx
         have hx2 : (x != 0) = true := by simpa using hx
         have HB4 := hid (HBW.out _ (HI2.out.below.trans (hb4.mono HI2.out.sz)))
         clear hb4 hx
         go_wp2_with fail
         go_quiet (fail)
         refine drewN_any ?_
         intro X hbX hXh
         clear hXh
         have HG := hid (parsed_no (b := b) (((HB4.out.alloc HB4.out.size (.cells #[.slice none 0 0, .slice none 0 0] 77)).trans (hbX.mono (by have := HB4.out.size; simp; omega)))) 3 (by decide) HNO.out)
         clear hbX
         go_wp2_with fail
         go_ret2
         exact HG.out
       | some v =>
         obtain ⟨p, R3⟩ := v
         rw [hn] at KT
         have HK := hid KT
         have HN : Hid (∀ l0, Blk.WFb b l0 → Blk.nextP ((o.map Pv.pr).length % 16 == 0) last r = some (p, R3)) := hid (fun l0 hw => by rw [List.length_map, HHB.out l0 hw]; exact hn)
         have hnl := Blk.nextP_len hn
         clear KT hn
         go_wp2_with fail
         refine HK.out.mono ?_
         rintro e w4 ⟨q, B3, d3, LA2, LC2, rfl, hok⟩
         have HI4 := hid (HI2.out.next ⟨by have := HLT.out; omega, by have := HLT.out; omega⟩ hok)
         have HQK := hid (hok.key.mono HI2.out.sz)
         have HQV := hid (hok.val.mono HI2.out.sz)
         have HQP := hid hok.pr
         clear hok
         obtain ⟨W4, hW4⟩ : ∃ W4, W4 = w4.alloc (.cells #[.slice q.kA q.k.length q.kc, .slice q.vA q.v.length q.vc] 77) := ⟨_, rfl⟩
         have hba : Below w4.heap.size w4 W4 := by rw [hW4]; exact (Below.refl _ _).alloc (Nat.le_refl _) _
         have hpx : W4.heap[w4.heap.size]? = some (.cells #[.slice q.kA q.k.length q.kc, .slice q.vA q.v.length q.vc] 77) := by rw [hW4]; exact heap_alloc_new _ _
         have HI5 := hid (HI4.out.call hba)
         have HQK5 := hid (HQK.out.below hba)
         have HQV5 := hid (HQV.out.below hba)
         have HPX := hid hpx
         have p0 := cell_of_row W4 w4.heap.size 0 _ _ (0, 0) hpx
         have p1 := cell_of_row W4 w4.heap.size 1 _ _ (0, 0) hpx
         simp only [List.getElem?_toArray, List.getElem?_cons_zero, List.getElem?_cons_succ] at p0 p1
         have HW4 := hid hW4
         have HKK : Hid (q.k = p.k) := hid (by rw [← HQP.out]; rfl)
         clear hba hpx hW4 HI4 HQK HQV
         go_wp2_with fail
         rw [← HW4.out]
         by_cases hp0 : 0 < o.length
         case' neg =>
           have hol : decide ((0 : Int) < (o.length : Int)) = false := decide_eq_false (by omega)
           have hol2 : ¬ ((0 : Int) < (o.length : Int)) := by omega
           go_quiet (fail)
           refine drewN_any ?_
           intro X hbX hXh
           clear hXh
         case' pos =>
           obtain ⟨n0, ho0⟩ : ∃ n0, o.length = n0 + 1 := ⟨o.length - 1, by omega⟩
           obtain ⟨ob, ooff, hOA, hobl, hrow⟩ := HI5.out.out.rd.row2 (by omega)
           have c0 := (hrow n0 (by omega)).1
           obtain ⟨ol, hol⟩ : ∃ ol, ol = o[n0]'(by omega) := ⟨_, rfl⟩
           rw [← hol] at c0
           have HLK : Hid (Blk.lastK (o.map Pv.pr) = ol.k) := hid (by
             unfold Blk.lastK
             rw [List.getLast?_map, List.getLast?_eq_getElem?, show o.length - 1 = n0 by omega, List.getElem?_eq_getElem (by omega), hol]
             rfl)
           have hrdl := (HI5.out.out.own ol (by rw [hol]; exact List.getElem_mem _)).1.rd
           have nq1 : IntKind.i64.wrap ((o.length : Int) - 1) = (n0 : Int) := by rw [IntKind.wrap_i64]; omega
           have nq2 : (0 : Int) ≤ (n0 : Int) := by omega
           have nq3 : (n0 : Int) < (o.length : Int) := by omega
           have nq4 : decide ((0 : Int) < (o.length : Int)) = true := decide_eq_true (by omega)
           have nq5 : (0 : Int) < (o.length : Int) := by omega
           obtain ⟨CV, hCV⟩ : ∃ CV, CV = Lib.compareBytes q.k ol.k := ⟨_, rfl⟩
           have KCV : Hid (∀ n, Calls Tryz.prog 59 #[.slice q.kA q.k.length q.kc, .slice ol.kA ol.k.length ol.kc] (W4.drewN n) fun e w' => e = .returned (.int .i64 CV) ∧ w' = W4.drewN n) := hid (fun n => by
             rw [hCV]
             exact (bcmp_any W4.heap.size q.kA q.kc q.k W4.heap.size ol.kA ol.kc ol.k (W4.drewN n) (Reads.drewN HQK5.out.rd n) (Reads.drewN hrdl n)).mono (fun e w' h => ⟨h.1, h.2.symm⟩))
           have HCV := hid hCV
           subst hOA
           have HO0 := hid ho0
           clear hCV hrow hol hrdl ho0
           by_cases hcv : CV ≤ 0
           case' pos =>
             have hcv2 : decide (CV ≤ 0) = true := decide_eq_true hcv
             have HNO : Hid (∀ l0, ¬ Blk.WFb b l0) := hid (fun l0 hw => by
               obtain ⟨p', l2, e1, e2⟩ := HW.out.1.nextP hr (by omega) HW.out.2.1 hw
               rw [HN.out l0 hw] at e2
               injection e2 with e2; injection e2 with e3 e4
               subst e3
               have h1 := Blk.srt_at (e1 ▸ hw.few.2) (by rw [List.length_map, HO0.out]; omega)
               rw [HLK.out] at h1
               have h2 := hcv
               rw [HCV.out, compareBytes_le, HKK.out, h1] at h2
               cases h2)
             clear hcv
             go_quiet ((go_at_call 59; exact Calls.quiet_of_same (KCV.out _)))
             refine drewN_any ?_
             intro X hbX hXh
             clear hXh
             have HG := hid (parsed_no (b := b) (HBW.out _ (HI5.out.below.trans (hbX.mono HI5.out.sz))) 3 (by decide) HNO.out)
             clear hbX
             go_wp2_with fail
             go_ret2
             exact HG.out
           have hcv2 : decide (CV ≤ 0) = false := decide_eq_false hcv
           clear hcv
           go_quiet ((go_at_call 59; exact Calls.quiet_of_same (KCV.out _)))
           refine drewN_any ?_
           intro X hbX hXh
           clear hXh
         case pos =>
           have HI6 := hid (HI5.out.call hbX)
           have HQK6 := hid (HQK5.out.below hbX)
           have HQV6 := hid (HQV5.out.below hbX)
           have hpx := (hbX.block _ (Array.getElem?_eq_some_iff.1 HPX.out).1).trans HPX.out
           have p0 := cell_of_row X w4.heap.size 0 _ _ (0, 0) hpx
           have p1 := cell_of_row X w4.heap.size 1 _ _ (0, 0) hpx
           simp only [List.getElem?_toArray, List.getElem?_cons_zero, List.getElem?_cons_succ] at p0 p1
           have hsz := HI6.out.sz
           have HX1 : Hid ((o.length + [q].length) * 48 ≤ 140737488355328) := hid (by simp; omega)
           have HX2 : Hid (o.length + [q].length ≤ maxLen) := hid (by unfold maxLen; simp; omega)
           have HX4 : Hid (∀ ob, gb ≤ (X.alloc ob).heap.size) := hid (fun ob => by simp; omega)
           have HX3 := hid HI6.out.out.row
           clear hbX hpx
           go_wp2_with (at_builtin; refine wpList_append_s _ rfl (.tmp 72) (.tmp 74) pairT rfl gb (some ⟨ob, ooff, none⟩) OC o rfl (HX3.out.alloc _) (X.heap.size + 1) (some ⟨X.heap.size, 0, none⟩) 1 1 [q] rfl rfl (rd_pair_new X q) HX1.out HX2.out (HX4.out _) ?_)
           intro OA' OC' o' w9 ho' hoS hgS hatS
           have hIa := HI6.out.call ((Below.refl X.heap.size X).alloc (Nat.le_refl _) (.cells #[.slice q.kA q.k.length q.kc, .slice q.vA q.v.length q.vc] 77))
           have hrow := fun g hg => ownS_tag (g := g) hIa.out.row hg
           rw [ho'] at hoS
           have HO9 := hIa.out.app (p := q) (HQK6.out.alloc _) (HQV6.out.alloc _) hoS hgS
           have HH9 := hIa.hds.kept_ne hgS (fun g hg => (hrow g hg).2) (by decide)
           have HI9 := hid (hIa.grow ⟨by decide, by decide, fun cs fr e => by rw [HXV.out] at e; injection e with _ e2; exact absurd e2 (by decide)⟩ hrow hgS HO9 HH9)
           rw [← ho'] at HI9
           have HM9 : Hid (o'.map Pv.pr = o.map Pv.pr ++ [p]) := hid (by rw [ho', List.map_append, List.map_cons, HQP.out]; rfl)
           have HLN9 : Hid (o'.length = o.length + 1 ∧ ∀ x ∈ o', x ∈ o ∨ x = q) := hid ⟨by rw [ho']; simp, fun x hx => by
             rw [ho'] at hx
             simpa using hx⟩
           clear ho' hoS hgS hatS hIa hrow HO9 HH9
           have HW9 : Hid (Blk.WRel b (o'.map Pv.pr) p.k R3 ∧ Blk.lastK (o'.map Pv.pr) = p.k ∧ (ev = 16 → Blk.HRel b (o'.map Pv.pr) hs)) := hid (by
             rw [HM9.out]
             refine ⟨fun l0 hw => (HW.out.1.stepP hr (by omega) HW.out.2.1 (HN.out l0 hw)) l0 hw, Blk.lastK_snoc _ _, fun h16 => ?_⟩
             have h1 := (HW.out.2.2 h16).step (p := p) HW.out.1 HW.out.2.1 HZM.out.1
             rw [List.length_map] at h1
             rw [if_neg (by rw [← h16]; exact hhd), List.append_nil] at h1
             exact h1)
           have HL9 : Hid (o'.length + R3.length ≤ Z ∧ p.k.length + R3.length ≤ Z ∧ hs.length ≤ o'.length ∧ ∀ x ∈ o', x.k.length ≤ Z ∧ x.v.length ≤ Z) := hid (by
             have h1 := HLN9.out.1
             refine ⟨by omega, by omega, by omega, fun x hx => ?_⟩
             rcases HLN9.out.2 x hx with h2 | h2
             · exact HL.out.2.2.2 x h2
             · have h3 : q.v = p.v := by rw [← HQP.out]; rfl
               rw [h2, HKK.out, h3]
               exact ⟨by omega, by omega⟩)
           have hmes : R3.length < r.length := by omega
           go_wp2_with fail
           go_roundw
           case rel => exact ⟨B3, d3, R3, OA', OC', o', NA, NC, hs, LA2, LC2, p.k, rfl, rfl, rfl, HI9, HW9, HL9⟩
           case measure => simpa using hmes
         case neg =>
           have HI6 := hid (HI5.out.call hbX)
           have HQK6 := hid (HQK5.out.below hbX)
           have HQV6 := hid (HQV5.out.below hbX)
           have hpx := (hbX.block _ (Array.getElem?_eq_some_iff.1 HPX.out).1).trans HPX.out
           have p0 := cell_of_row X w4.heap.size 0 _ _ (0, 0) hpx
           have p1 := cell_of_row X w4.heap.size 1 _ _ (0, 0) hpx
           simp only [List.getElem?_toArray, List.getElem?_cons_zero, List.getElem?_cons_succ] at p0 p1
           have hsz := HI6.out.sz
           have HX1 : Hid ((o.length + [q].length) * 48 ≤ 140737488355328) := hid (by simp; omega)
           have HX2 : Hid (o.length + [q].length ≤ maxLen) := hid (by unfold maxLen; simp; omega)
           have HX4 : Hid (∀ ob, gb ≤ (X.alloc ob).heap.size) := hid (fun ob => by simp; omega)
           have HX3 := hid HI6.out.out.row
           clear hbX hpx
           go_wp2_with (at_builtin; refine wpList_append_s _ rfl (.tmp 72) (.tmp 74) pairT rfl gb OA OC o rfl (HX3.out.alloc _) (X.heap.size + 1) (some ⟨X.heap.size, 0, none⟩) 1 1 [q] rfl rfl (rd_pair_new X q) HX1.out HX2.out (HX4.out _) ?_)
           intro OA' OC' o' w9 ho' hoS hgS hatS
           have hIa := HI6.out.call ((Below.refl X.heap.size X).alloc (Nat.le_refl _) (.cells #[.slice q.kA q.k.length q.kc, .slice q.vA q.v.length q.vc] 77))
           have hrow := fun g hg => ownS_tag (g := g) hIa.out.row hg
           rw [ho'] at hoS
           have HO9 := hIa.out.app (p := q) (HQK6.out.alloc _) (HQV6.out.alloc _) hoS hgS
           have HH9 := hIa.hds.kept_ne hgS (fun g hg => (hrow g hg).2) (by decide)
           have HI9 := hid (hIa.grow ⟨by decide, by decide, fun cs fr e => by rw [HXV.out] at e; injection e with _ e2; exact absurd e2 (by decide)⟩ hrow hgS HO9 HH9)
           rw [← ho'] at HI9
           have HM9 : Hid (o'.map Pv.pr = o.map Pv.pr ++ [p]) := hid (by rw [ho', List.map_append, List.map_cons, HQP.out]; rfl)
           have HLN9 : Hid (o'.length = o.length + 1 ∧ ∀ x ∈ o', x ∈ o ∨ x = q) := hid ⟨by rw [ho']; simp, fun x hx => by
             rw [ho'] at hx
             simpa using hx⟩
           clear ho' hoS hgS hatS hIa hrow HO9 HH9
           have HW9 : Hid (Blk.WRel b (o'.map Pv.pr) p.k R3 ∧ Blk.lastK (o'.map Pv.pr) = p.k ∧ (ev = 16 → Blk.HRel b (o'.map Pv.pr) hs)) := hid (by
             rw [HM9.out]
             refine ⟨fun l0 hw => (HW.out.1.stepP hr (by omega) HW.out.2.1 (HN.out l0 hw)) l0 hw, Blk.lastK_snoc _ _, fun h16 => ?_⟩
             have h1 := (HW.out.2.2 h16).step (p := p) HW.out.1 HW.out.2.1 HZM.out.1
             rw [List.length_map] at h1
             rw [if_neg (by rw [← h16]; exact hhd), List.append_nil] at h1
             exact h1)
           have HL9 : Hid (o'.length + R3.length ≤ Z ∧ p.k.length + R3.length ≤ Z ∧ hs.length ≤ o'.length ∧ ∀ x ∈ o', x.k.length ≤ Z ∧ x.v.length ≤ Z) := hid (by
             have h1 := HLN9.out.1
             refine ⟨by omega, by omega, by omega, fun x hx => ?_⟩
             rcases HLN9.out.2 x hx with h2 | h2
             · exact HL.out.2.2.2 x h2
             · have h3 : q.v = p.v := by rw [← HQP.out]; rfl
               rw [h2, HKK.out, h3]
               exact ⟨by omega, by omega⟩)
           have hmes : R3.length < r.length := by omega
           go_wp2_with fail
           go_roundw
           case rel => exact ⟨B3, d3, R3, OA', OC', o', NA, NC, hs, LA2, LC2, p.k, rfl, rfl, rfl, HI9, HW9, HL9⟩
           case measure => simpa using hmes
       
def RecOf (p : Pr) (v : Option (List UInt8 × Int × Bool × List UInt8)) : Prop := ∀ r : Rv, Tb.right r = true → Tb.inner r = p → v = some (r.k, r.seq, r.del, r.v)
theorem iparts_all (k : List UInt8) (n : Nat) (hn : n < 18446744073709551616) : Cod.AllN (Tb.iparts k n) := by
 intro p hp
 simp only [Tb.iparts, List.mem_cons, List.not_mem_nil, or_false] at hp
 rcases hp with rfl | rfl
 · exact ⟨by simp, fun _ => rfl, fun h => by cases h⟩
 · exact ⟨hn, (fun h => by cases h), fun _ => rfl⟩
theorem inner_parts {p : Pr} {r : Rv} (hr : Tb.right r = true) (h : Tb.inner r = p) : ∃ n : Nat, n < 1099511627776 ∧ (n : Int) = 1099511627776 - r.seq ∧ p.k = Cod.key (Tb.iparts r.k n) ∧ p.v = (if r.del then 1 else 0) :: r.v := by
 have h1 := (Tb.right_iff _).1 hr
 refine ⟨(1099511627776 - r.seq).toNat, by omega, by omega, ?_, ?_⟩
 · rw [← h]; rfl
 · rw [← h]; rfl
theorem recOf_no1 {p : Pr} (h : ∀ l, Cod.AllN l → Cod.key l ≠ p.k) : RecOf p none := fun r hr e => by
 obtain ⟨n, h1, _, h3, _⟩ := inner_parts hr e
 exact absurd h3.symm (h _ (iparts_all _ _ (by omega)))
theorem recOf_l {p : Pr} {l : List Pt} (hl : Cod.AllN l) (hk : Cod.key l = p.k) {r : Rv} (hr : Tb.right r = true) (e : Tb.inner r = p) : ∃ n : Nat, n < 1099511627776 ∧ (n : Int) = 1099511627776 - r.seq ∧ l = Tb.iparts r.k n ∧ p.v = (if r.del then 1 else 0) :: r.v := by
 obtain ⟨n, h1, h2, h3, h4⟩ := inner_parts hr e
 exact ⟨n, h1, h2, Cod.key_inj hl (iparts_all _ _ (by omega)) (hk.trans h3), h4⟩
theorem recOf_no {p : Pr} {l : List Pt} (hl : Cod.AllN l) (hk : Cod.key l = p.k) (hno : ∀ (k : List UInt8) (n : Nat) (v : List UInt8) (d : Bool), l = Tb.iparts k n → n < 1099511627776 → p.v = (if d then 1 else 0) :: v → False) : RecOf p none := fun r hr e => by
 obtain ⟨n, h1, _, h3, h4⟩ := recOf_l hl hk hr e
 exact (hno _ _ _ _ h3 h1 h4).elim
theorem recOf_yes {p : Pr} {p0 p1 : Pt} {h : UInt8} {v : List UInt8} (hl : Cod.AllN [p0, p1]) (hk : Cod.key [p0, p1] = p.k) (hv : p.v = h :: v) : RecOf p (some (p0.s.data.toList, 1099511627776 - (p1.n : Int), h == 1, v)) := fun r hr e => by
 obtain ⟨n, h1, h2, h3, h4⟩ := recOf_l hl hk hr e
 unfold Tb.iparts at h3
 injection h3 with e1 h3
 injection h3 with e2 _
 subst e1 e2
 rw [hv] at h4
 injection h4 with h5 h6
 subst h6
 have hd : (h == 1) = r.del := by rw [h5]; cases r.del <;> rfl
 simp only [hd]
 have h7 : (1099511627776 : Int) - (n : Int) = r.seq := by omega
 rw [h7]
theorem esc_len (l : List UInt8) : l.length ≤ (Esc.esc 0 [0, 255] l).length := by
 induction l with
 | nil => simp
 | cons c l ih =>
   rw [Esc.esc_cons, List.length_append, List.length_cons]
   have : 1 ≤ (if c = 0 then [0, 255] else [c] : List UInt8).length := by split <;> simp
   omega
theorem key_text_len {p0 : Pt} {l : List Pt} (h : p0.t = true) : p0.s.data.toList.length ≤ (Cod.key (p0 :: l)).length := by
 rw [Cod.key_cons]
 unfold Cod.partKey
 rw [if_pos h]
 have := esc_len p0.s.data.toList
 simp only [List.length_append, List.length_cons]
 omega
def RecP (w : World) (base : Nat) (p : Pv) (e : Ending) (w' : World) : Prop := Below w.heap.size w w' ∧
 ((e = .returned (.tuple #[.agg #[.slice none 0 0, .int .i64 0, .bool false, .slice none 0 0], .bool false]) ∧ RecOf p.pr none) ∨
  (∃ r : Rv, e = .returned (.tuple #[r.val, .bool true]) ∧ RecOf p.pr (some (r.k, r.seq, r.del, r.v)) ∧ HBs w' base r.kA r.k ∧ r.k.length ≤ r.kc ∧ HBs w' base r.vA r.v ∧ r.v.length ≤ r.vc ∧ r.k.length ≤ p.k.length ∧ r.v.length ≤ p.v.length))
theorem recP_no {w w' : World} {base : Nat} {p : Pv} (hb : Below w.heap.size w w') (h : RecOf p.pr none) : RecP w base p (.returned (.tuple #[.agg #[.slice none 0 0, .int .i64 0, .bool false, .slice none 0 0], .bool false])) w' := ⟨hb, .inl ⟨rfl, h⟩⟩
theorem heap_set4 {w : World} {g : Nat} {x y z u a b c d : Value} {T : TypeId} (h : w.heap[g]? = some (.cells #[x, y, z, u] T)) : ((((w.setCell ⟨g, 0, none⟩ a).setCell ⟨g, 1, none⟩ b).setCell ⟨g, 2, none⟩ c).setCell ⟨g, 3, none⟩ d).heap[g]? = some (.cells #[a, b, c, d] T) := by
 have h1 := heap_setCell_same w g 0 _ T a h
 have h2 := heap_setCell_same _ g 1 _ T b h1
 have h3 := heap_setCell_same _ g 2 _ T c h2
 have h4 := heap_setCell_same _ g 3 _ T d h3
 simpa using h4
theorem HBs.set4 {w : World} {base g : Nat} {x y z u a b c d : Value} {T : TypeId} {B : Option Addr} {r : List UInt8} (h : HBs w base B r) (hb : w.heap[g]? = some (.cells #[x, y, z, u] T)) (hT : T ≠ 5) (hg : base ≤ g) : HBs ((((w.setCell ⟨g, 0, none⟩ a).setCell ⟨g, 1, none⟩ b).setCell ⟨g, 2, none⟩ c).setCell ⟨g, 3, none⟩ d) base B r := h.keep (by simp) (fun hne k hk _ => by
 have e : k ≠ g := fun e => by
   subst e
   rcases h.at_ hne k hk with h1 | ⟨cs', fr', h1⟩
   · omega
   · exact tag_ne2 h1 hb (fun e => hT e.symm) rfl
 rw [heap_setD _ e, heap_setD _ e, heap_setD _ e, heap_setD _ e])
theorem HBs.drew {w : World} {base : Nat} {B : Option Addr} {r : List UInt8} (h : HBs w base B r) : HBs w.drew base B r := ⟨h.rd, h.at_⟩
theorem HBs.tail {w : World} {base g off c : Nat} {x : UInt8} {r : List UInt8} (h : HBs w base (some ⟨g, off, none⟩) (x :: r)) (hc : r.length + 1 ≤ c) : HBs w base (if c = 1 then some ⟨g, off, none⟩ else some ⟨g, off + 1, none⟩) r := by
 have h1 := h.rd.cut (k := 1) (c := c) (by simp) (by simpa using hc)
 simp only [List.drop_succ_cons, List.drop_zero] at h1
 refine ⟨h1, fun _ k hk => h.at_ (by simp) k ?_⟩
 split at hk <;> exact hk
theorem rec_size : (Tryz.prog.info? 35).map (fun x => x.size) = some 4 := by kernel_rfl
def Rv.core (r : Rv) : List UInt8 × Int × Bool × List UInt8 := (r.k, r.seq, r.del, r.v)
namespace Tb
def Is (b : List UInt8) (l : List Rv) (s t : Int) : Prop := build l s t = (0, b)
structure IsU (b : List UInt8) (l : List Rv) (s t : Int) : Prop where
 s1 : 64 ≤ s
 s2 : s ≤ 32768
 t1 : 1 ≤ t
 t2 : t ≤ 32
 l1 : 1 ≤ l.length
 l2 : l.length ≤ 20000
 r : ∀ r ∈ l, right r = true
 srt : sorted l = true
 good : (close (run s l)).bad = false
 fit : ∀ p ∈ ends (close (run s l)) s.toNat t.toNat l, p.2.length ≤ 65536
 eq : b = (close (run s l)).out ++ (ends (close (run s l)) s.toNat t.toNat l).flatMap (fun p => putL p.1 p.2)
theorem Is.unf {b : List UInt8} {l : List Rv} {s t : Int} (h : Is b l s t) : IsU b l s t := by
 unfold Is build at h
 by_cases h1 : s < 64 ∨ 32768 < s ∨ t < 1 ∨ 32 < t ∨ l.length < 1 ∨ 20000 < l.length ∨ l.any (fun r => !right r) = true
 · rw [if_pos h1] at h; cases h
 · rw [if_neg h1] at h
   by_cases h2 : sorted l = false
   · rw [if_pos h2] at h; cases h
   · rw [if_neg h2] at h
     simp only at h
     by_cases h3 : ((close (run s l)).bad || (ends (close (run s l)) s.toNat t.toNat l).any (fun p => !fits p.2)) = true
     · rw [if_pos h3] at h; cases h
     · rw [if_neg h3] at h
       injection h with _ h
       rw [Bool.or_eq_true, not_or] at h3
       obtain ⟨h4, h5⟩ := h3
       refine ⟨by omega, by omega, by omega, by omega, by omega, by omega, fun r hr => ?_, by simpa using h2, by simpa using h4, fun p hp => ?_, h.symm⟩
       · cases hx : right r with
         | true => rfl
         | false => exact absurd (.inr (.inr (.inr (.inr (.inr (.inr (List.any_eq_true.2 ⟨r, hr, by rw [hx]; rfl⟩))))))) h1
       · have h6 : fits p.2 = true := by
           cases hx : fits p.2 with
           | true => rfl
           | false => exact absurd (List.any_eq_true.2 ⟨p, hp, by rw [hx]; rfl⟩) h5
         unfold fits at h6
         exact of_decide_eq_true h6
theorem emits_out (gs : List (List Pr)) (h : ∀ x ∈ gs, x ≠ []) : (emits gs).out = gs.flatMap (fun g => putL 68 (blkB 16 g)) := by
 have key : ∀ k, k ≤ gs.length → (emits (gs.take k)).out = (gs.take k).flatMap (fun g => putL 68 (blkB 16 g)) := fun k => by
   induction k with
   | zero => intro _; rfl
   | succ k ih =>
     intro hk
     rw [emits_succ gs k (by omega), emit_eq _ _ (h _ (List.getElem_mem _)), List.take_succ_eq_append_getElem (by omega), List.flatMap_append, ← ih (by omega)]
     simp
 have := key gs.length (Nat.le_refl _)
 rwa [List.take_length] at this
theorem parts_flat (size : Int) (l : List Rv) (k : Nat) (h : k ≤ l.length) : (parts size (l.take k)).1.flatten = (l.take k).map inner := by
 induction k with
 | zero => rfl
 | succ k ih =>
   rw [parts_succ size l k (by omega), List.take_succ_eq_append_getElem (by omega), List.map_append, ← ih (by omega)]
   unfold pst
   split
   · simp
   · rename_i hc
     obtain ⟨P, g, hp⟩ : ∃ P g, (parts size (l.take k)).1 = P ++ [g] := ⟨_, _, (List.dropLast_concat_getLast (fun e => hc (.inl e))).symm⟩
     rw [hp]
     simp
def Adj (l : List Pr) : Prop := ∀ i a b, l[i]? = some a → l[i + 1]? = some b → Op.bytesLess a.k b.k = true
theorem adj_mid {x g y : List Pr} (h : Adj (x ++ g ++ y)) : Adj g := fun i a b ha hb => by
 have hi := (List.getElem?_eq_some_iff.1 ha).1
 have hi1 := (List.getElem?_eq_some_iff.1 hb).1
 refine h (x.length + i) a b ?_ ?_
 · rw [List.append_assoc, List.getElem?_append_right (by omega), List.getElem?_append_left (by omega)]
   rw [← ha]; congr 1; omega
 · rw [List.append_assoc, List.getElem?_append_right (by omega), List.getElem?_append_left (by omega)]
   rw [← hb]; congr 1; omega
theorem adj_srt {g : List Pr} (h : Adj g) : Blk.srt g = true := by
 rw [Blk.srt_iff]
 intro i hi h0 _
 exact h (i - 1) _ _ (List.getElem?_eq_getElem (by omega)) (by rw [Nat.sub_add_cancel h0]; exact List.getElem?_eq_getElem hi)
theorem sorted_at {l : List Rv} (h : sorted l = true) {i : Nat} (hi : i < l.length) (h0 : 0 < i) : ahead (l[i - 1]'(by omega)) l[i] = true := by
 cases hx : ahead (l[i - 1]'(by omega)) l[i] with
 | true => rfl
 | false => rw [sorted_no hi h0 hx] at h; cases h
theorem inner_less {a b : Rv} (ha : right a = true) (hb : right b = true) (h : ahead a b = true) : Op.bytesLess (inner a).k (inner b).k = true := by
 have ra := (right_iff a).1 ha
 have rb := (right_iff b).1 hb
 have e := Cod.key_order (iparts a.k (1099511627776 - a.seq).toNat) (iparts b.k (1099511627776 - b.seq).toNat) (fun p hp => by
   simp only [iparts, List.mem_cons, List.not_mem_nil, or_false] at hp
   rcases hp with rfl | rfl <;> simp <;> omega) (fun p hp => by
   simp only [iparts, List.mem_cons, List.not_mem_nil, or_false] at hp
   rcases hp with rfl | rfl <;> simp <;> omega)
 show Op.bytesLess (ikey a.k a.seq) (ikey b.k b.seq) = true
 unfold ikey
 rw [e]
 unfold ahead at h
 rw [Bool.or_eq_true, Bool.and_eq_true] at h
 unfold iparts
 by_cases hk : a.k = b.k
 · have hlt : b.seq < a.seq := by
     rcases h with h | h
     · rw [hk] at h
       have := Cod.bytesLess_same b.k [] []
       simp only [List.append_nil] at this
       rw [this] at h; cases h
     · exact of_decide_eq_true h.2
   have e1 : Cod.ptSame ⟨true, 0, ⟨a.k.toArray⟩⟩ ⟨true, 0, ⟨b.k.toArray⟩⟩ = true := by unfold Cod.ptSame; simp [hk]
   have e2 : Cod.ptSame ⟨false, (1099511627776 - a.seq).toNat, ⟨#[]⟩⟩ ⟨false, (1099511627776 - b.seq).toNat, ⟨#[]⟩⟩ = false := by unfold Cod.ptSame; simp; omega
   unfold Cod.less
   rw [if_pos e1]
   unfold Cod.less
   rw [if_neg (by rw [e2]; simp)]
   unfold Cod.ptLess
   simp
   omega
 · have hl : Op.bytesLess a.k b.k = true := by
     rcases h with h | h
     · exact h
     · exact absurd (by simpa using h.1) hk
   have e1 : Cod.ptSame ⟨true, 0, ⟨a.k.toArray⟩⟩ ⟨true, 0, ⟨b.k.toArray⟩⟩ = false := by unfold Cod.ptSame; simp [hk]
   unfold Cod.less
   rw [if_neg (by rw [e1]; simp)]
   unfold Cod.ptLess
   simpa using hl
theorem adj_inner {l : List Rv} (hr : ∀ r ∈ l, right r = true) (h : sorted l = true) : Adj (l.map inner) := fun i a b ha hb => by
 rw [List.getElem?_map] at ha hb
 obtain ⟨x, hx, rfl⟩ := Option.map_eq_some_iff.1 ha
 obtain ⟨y, hy, rfl⟩ := Option.map_eq_some_iff.1 hb
 obtain ⟨h1, e1⟩ := List.getElem?_eq_some_iff.1 hx
 obtain ⟨h2, e2⟩ := List.getElem?_eq_some_iff.1 hy
 have h3 := sorted_at h h2 (by omega)
 simp only [Nat.add_sub_cancel] at h3
 rw [e1, e2] at h3
 exact inner_less (hr _ (by rw [← e1]; exact List.getElem_mem _)) (hr _ (by rw [← e2]; exact List.getElem_mem _)) h3
theorem flat_app (x y : List (UInt8 × List UInt8)) : Frm.flat (x ++ y) = Frm.flat x ++ Frm.flat y := by simp [Frm.flat]
theorem putL_put {k : UInt8} {b : List UInt8} (h : b.length ≤ 65536) : putL k b = Frm.put k b := if_pos h
theorem flatMap_cg {α : Type} {f g : α → List UInt8} : ∀ {l : List α}, (∀ x ∈ l, f x = g x) → l.flatMap f = l.flatMap g
 | [], _ => rfl
 | a :: l, h => by rw [List.flatMap_cons, List.flatMap_cons, h a (by simp), flatMap_cg (fun x hx => h x (by simp [hx]))]
structure Fms (b : List UInt8) (l : List Rv) (s t : Int) (gs : List (List Pr)) (fs : List (UInt8 × List UInt8)) : Prop where
 ne : gs ≠ []
 gne : ∀ g ∈ gs, g ≠ []
 wf : ∀ g ∈ gs, Blk.WFb (blkB 16 g) g
 flat : gs.flatten = l.map inner
 form : ∃ f ix, fs = gs.map (fun g => ((68 : UInt8), blkB 16 g)) ++ [(70, f), (73, ix), (90, nums [s.toNat, t.toNat, l.length, (low l).toNat, (high l).toNat])]
 filt : fs[gs.length]? = some (70, Blm.build t.toNat (l.map Rv.k))
 scan : Frm.Scans b fs []
theorem Is.frames {b : List UInt8} {l : List Rv} {s t : Int} (h : Is b l s t) : ∃ gs fs, Fms b l s t gs fs := by
 have u := h.unf
 obtain ⟨h1, h2⟩ := close_run s u.s1 l (by have := u.l1; omega)
 obtain ⟨gs, hgs⟩ : ∃ gs, gs = (parts s l).1 := ⟨_, rfl⟩
 rw [← hgs] at h1 h2
 have hfl : gs.flatten = l.map inner := by
   have := parts_flat s l l.length (Nat.le_refl _)
   rw [List.take_length] at this
   rw [hgs]; exact this
 have hbad := u.good
 rw [h1, emits_bad gs h2] at hbad
 have hfit : ∀ g ∈ gs, (blkB 16 g).length ≤ 65536 := fun g hg => by
   have := List.any_eq_false.1 hbad g hg
   have h3 : fits (blkB 16 g) = true := by simpa using this
   exact of_decide_eq_true h3
 have heq := u.eq
 have hft := u.fit
 rw [h1] at heq hft
 rw [emits_out gs h2] at heq
 have hbd : ∀ x ∈ gs, ∀ p ∈ x, p.k.length ≤ 10000 ∧ p.v.length ≤ 10000 := by
   have := parts_bytes s l u.r l.length (Nat.le_refl _)
   rw [List.take_length, ← hgs] at this
   exact this
 have hln : ∀ x ∈ gs, x.length ≤ 20000 := fun x hx => by
   have := parts_lens s l l.length (Nat.le_refl _)
   rw [List.take_length, ← hgs] at this
   exact Nat.le_trans (this x hx) u.l2
 have hadj := adj_inner u.r u.srt
 have hwf : ∀ g ∈ gs, Blk.WFb (blkB 16 g) g := fun g hg => by
   have hs : Blk.srt g = true := by
     obtain ⟨X, Y, e⟩ := List.append_of_mem hg
     rw [← hfl, e] at hadj
     refine adj_srt (adj_mid (x := X.flatten) (y := Y.flatten) ?_)
     simpa using hadj
   have he : Blk.err 16 g = 0 := by
     unfold Blk.err
     have := hln g hg
     rw [if_neg (by omega), hs]; rfl
   refine ⟨?_, he, fun p hp => by have := hbd g hg p hp; omega⟩
   unfold blkB
   rw [if_pos he]; rfl
 refine ⟨gs, gs.map (fun g => ((68 : UInt8), blkB 16 g)) ++ ends (emits gs) s.toNat t.toNat l, fun e => ?_, h2, hwf, hfl, ⟨_, _, rfl⟩, ?_, ?_, ?_⟩
 · rw [e] at hfl
   have := congrArg List.length hfl
   have := u.l1
   simp at *
   omega
 · rw [List.getElem?_append_right (by rw [List.length_map]; exact Nat.le_refl _), List.length_map, Nat.sub_self]; rfl
 · rw [List.append_nil, heq, flat_app]
   congr 1
   · unfold Frm.flat
     rw [List.flatMap_map]
     exact flatMap_cg fun g hg => putL_put (hfit g hg)
   · unfold Frm.flat
     exact flatMap_cg fun p hp => putL_put (hft p hp)
 · intro p hp
   rw [List.mem_append] at hp
   rcases hp with hp | hp
   · obtain ⟨g, hg, rfl⟩ := List.mem_map.1 hp
     exact hfit g hg
   · exact hft p hp
end Tb
namespace Tb
def bare (r : Rv) : Rv := ⟨none, 0, r.k, r.seq, r.del, none, 0, r.v⟩
theorem bare_sorted (l : List Rv) : sorted (l.map bare) = sorted l := by
 have key : ∀ a c : List Rv, a.length = c.length → (∀ i (h1 : i < a.length) (h2 : i < c.length), bare a[i] = bare c[i]) → sorted a = true → sorted c = true := fun a c hl he hs => by
   refine sorted_yes fun i hi h0 => ?_
   have h1 := sorted_at hs (i := i) (by omega) h0
   have e1 := he i (by omega) hi
   have e2 := he (i - 1) (by omega) (by omega)
   have g1 : ahead (bare (a[i - 1]'(by omega))) (bare (a[i]'(by omega))) = true := h1
   rw [e1, e2] at g1
   exact g1
 rw [Bool.eq_iff_iff]
 exact ⟨key _ _ (by simp) (fun i h1 h2 => by rw [List.getElem_map]; rfl), key _ _ (by simp) (fun i h1 h2 => by rw [List.getElem_map]; rfl)⟩
theorem foldl_bare {β : Type} (f : β → Rv → β) (hf : ∀ b r, f b (bare r) = f b r) : ∀ (l : List Rv) (b : β), (l.map bare).foldl f b = l.foldl f b
 | [], _ => rfl
 | a :: l, b => by rw [List.map_cons, List.foldl_cons, List.foldl_cons, hf, foldl_bare f hf l]
theorem head_bare (l : List Rv) : ((l.map bare).head?.map Rv.seq).getD 0 = (l.head?.map Rv.seq).getD 0 := by cases l <;> rfl
theorem low_bare (l : List Rv) : low (l.map bare) = low l := by
 unfold low
 rw [head_bare]
 exact foldl_bare (fun m r => min m r.seq) (fun _ _ => rfl) l _
theorem high_bare (l : List Rv) : high (l.map bare) = high l := by
 unfold high
 rw [head_bare]
 exact foldl_bare (fun m r => max m r.seq) (fun _ _ => rfl) l _
theorem run_bare (s : Int) (l : List Rv) : run s (l.map bare) = run s l := foldl_bare (add s) (fun _ _ => rfl) l _
theorem keys_bare (l : List Rv) : (l.map bare).map Rv.k = l.map Rv.k := by rw [List.map_map]; rfl
theorem any_bare (l : List Rv) : (l.map bare).any (fun r => !right r) = l.any (fun r => !right r) := by rw [List.any_map]; rfl
theorem build_bare (l : List Rv) (s t : Int) : build (l.map bare) s t = build l s t := by
 unfold build ends
 rw [any_bare, bare_sorted, run_bare, low_bare, high_bare, keys_bare, List.length_map]
theorem bare_core (l m : List Rv) (h : l.map Rv.core = m.map Rv.core) : l.map bare = m.map bare := by
 have e : ∀ l : List Rv, l.map bare = (l.map Rv.core).map (fun c => (⟨none, 0, c.1, c.2.1, c.2.2.1, none, 0, c.2.2.2⟩ : Rv)) := fun l => by rw [List.map_map]; rfl
 rw [e, e, h]
theorem build_core {l m : List Rv} (h : l.map Rv.core = m.map Rv.core) (s t : Int) : build l s t = build m s t := by
 rw [← build_bare l, ← build_bare m, bare_core l m h]
theorem Is.scanned {b r : List UInt8} {l : List Rv} {s t : Int} {L : List (UInt8 × List UInt8)} (h : Is b l s t) (hs : Frm.Scans b L r) (hn : Frm.take r = none) : r = [] ∧ ∃ gs, Fms b l s t gs L := by
 obtain ⟨gs, fs, hf⟩ := h.frames
 obtain ⟨e1, e2⟩ := Frm.scans_uniq _ _ _ _ _ hs hn hf.scan rfl
 exact ⟨e2, gs, by rw [e1]; exact hf⟩
theorem Fms.len {b : List UInt8} {l : List Rv} {s t : Int} {gs : List (List Pr)} {L : List (UInt8 × List UInt8)} (h : Fms b l s t gs L) : L.length = gs.length + 3 ∧ 0 < gs.length := by
 obtain ⟨f, ix, e⟩ := h.form
 exact ⟨by rw [e]; simp, List.length_pos_iff.2 h.ne⟩
def five (l : List Rv) (s t : Int) : List Nat := [s.toNat, t.toNat, l.length, (low l).toNat, (high l).toNat]
theorem Fms.foot {b : List UInt8} {l : List Rv} {s t : Int} {gs : List (List Pr)} {L : List (UInt8 × List UInt8)} (h : Fms b l s t gs L) {p : UInt8 × List UInt8} (hp : L[L.length - 1]? = some p) : p.2 = nums (five l s t) := by
 have hl := h.len
 obtain ⟨f, ix, e⟩ := h.form
 rw [hl.1] at hp
 rw [e, List.getElem?_append_right (by rw [List.length_map]; omega)] at hp
 have e1 : gs.length + 3 - 1 - (gs.map (fun g => ((68 : UInt8), blkB 16 g))).length = 2 := by rw [List.length_map]; omega
 rw [e1] at hp
 have h2 : ((90 : UInt8), nums [s.toNat, t.toNat, l.length, (low l).toNat, (high l).toNat]) = p := by simpa using hp
 rw [← h2]; rfl
theorem Fms.block {b : List UInt8} {l : List Rv} {s t : Int} {gs : List (List Pr)} {L : List (UInt8 × List UInt8)} (h : Fms b l s t gs L) {i : Nat} (hi : i < L.length - 3) {p : UInt8 × List UInt8} (hp : L[i]? = some p) : ∃ g, gs[i]? = some g ∧ Blk.WFb p.2 g ∧ g ≠ [] := by
 have hl := h.len
 have hi' : i < gs.length := by omega
 obtain ⟨f, ix, e⟩ := h.form
 rw [e, List.getElem?_append_left (by rw [List.length_map]; exact hi'), List.getElem?_map, List.getElem?_eq_getElem hi'] at hp
 have h2 : ((68 : UInt8), blkB 16 gs[i]) = p := by simpa using hp
 refine ⟨gs[i], List.getElem?_eq_getElem hi', ?_, h.gne _ (List.getElem_mem _)⟩
 rw [← h2]
 exact h.wf _ (List.getElem_mem _)
def NR (b : List UInt8) (told : List Nat) (rest : List UInt8) : Prop := ∀ l s t, Is b l s t → ∃ tl, five l s t = told ++ tl ∧ rest = nums tl
theorem five_bd {b : List UInt8} {l : List Rv} {s t : Int} (h : Is b l s t) : ∀ n ∈ five l s t, n ≤ 1099511627776 := by
 have u := h.unf
 have hb := lohi_bd l u.r (by have := u.l1; omega) l.length (Nat.le_refl _)
 rw [lowK_all, highK_all] at hb
 have h1 := u.s2; have h2 := u.t2; have h3 := u.l2
 intro n hn
 simp only [five, List.mem_cons, List.not_mem_nil, or_false] at hn
 rcases hn with rfl | rfl | rfl | rfl | rfl <;> omega
theorem nums_cons (n : Nat) (l : List Nat) : nums (n :: l) = Cod.number n ++ nums l := by simp [nums]
theorem NR.next {b rest : List UInt8} {told : List Nat} (h : NR b told rest) (hl : told.length < 5) {l : List Rv} {s t : Int} (hi : Is b l s t) : ∃ n r, Cod.take rest = some (n, r) ∧ n ≤ 1099511627776 ∧ ∃ tl, five l s t = (told ++ [n]) ++ tl ∧ r = nums tl := by
 obtain ⟨tl, e1, e2⟩ := h l s t hi
 cases tl with
 | nil =>
   have := congrArg List.length e1
   simp [five] at this
   omega
 | cons n tl =>
   have hn : n ≤ 1099511627776 := five_bd hi n (by rw [e1]; simp)
   refine ⟨n, nums tl, ?_, hn, tl, by rw [e1]; simp, rfl⟩
   rw [e2, nums_cons]
   exact Cod.take_of (by omega) _
theorem NR.step {b rest r : List UInt8} {told : List Nat} {n : Nat} (h : NR b told rest) (hl : told.length < 5) (ht : Cod.take rest = some (n, r)) : NR b (told ++ [n]) r := fun l s t hi => by
 obtain ⟨n', r', e, _, tl, e1, e2⟩ := h.next hl hi
 rw [ht] at e
 injection e with e; injection e with a c
 subst a c
 exact ⟨tl, e1, e2⟩
theorem NR.no {b rest : List UInt8} {told : List Nat} (h : NR b told rest) (hl : told.length < 5) (ht : Cod.take rest = none) (l : List Rv) (s t : Int) : ¬ Is b l s t := fun hi => by
 obtain ⟨_, _, e, _⟩ := h.next hl hi
 rw [ht] at e; cases e
theorem NR.big {b rest r : List UInt8} {told : List Nat} {n : Nat} (h : NR b told rest) (hl : told.length < 5) (ht : Cod.take rest = some (n, r)) (hn : ¬ n ≤ 1099511627776) (l : List Rv) (s t : Int) : ¬ Is b l s t := fun hi => by
 obtain ⟨n', _, e, h1, _⟩ := h.next hl hi
 rw [ht] at e
 injection e with e; injection e with a _
 subst a
 exact hn h1
theorem NR.all {b rest : List UInt8} {told : List Nat} (h : NR b told rest) (hl : told.length = 5) {l : List Rv} {s t : Int} (hi : Is b l s t) : told = five l s t := by
 obtain ⟨tl, e1, _⟩ := h l s t hi
 have := congrArg List.length e1
 have h5 : (five l s t).length = 5 := rfl
 rw [List.length_append] at this
 have : tl = [] := List.length_eq_zero_iff.1 (by omega)
 rw [e1, this, List.append_nil]
theorem NR.two {b rest : List UInt8} {n m : Nat} (h : NR b [n, m] rest) {l : List Rv} {s t : Int} (hi : Is b l s t) : s = (n : Int) ∧ t = (m : Int) ∧ n ≤ 32768 ∧ m ≤ 32 ∧ rest.length ≤ 30 := by
 have u := hi.unf
 obtain ⟨tl, e1, e2⟩ := h l s t hi
 unfold five at e1
 injection e1 with a1 e1
 injection e1 with a2 e1
 have h1 := u.s1; have h2 := u.s2; have h3 := u.t1; have h4 := u.t2
 refine ⟨by omega, by omega, by omega, by omega, ?_⟩
 have hb := five_bd hi
 have e3 : tl = [l.length, (low l).toNat, (high l).toNat] := e1.symm
 rw [e2, e3]
 have := nums_len [l.length, (low l).toNat, (high l).toNat] (fun n hn => by
   have := hb n (by unfold five; simp only [List.mem_cons] at hn ⊢; rcases hn with h | h | h | h <;> simp [h])
   omega) 3 (Nat.le_refl _)
 simpa using this
def TR (b : List UInt8) (L : List (UInt8 × List UInt8)) (i j : Nat) (R : List Rv) : Prop := ∀ l s t gs, Is b l s t → Fms b l s t gs L → R.length = (gs.take i).flatten.length + j ∧ R.map Rv.core = (l.map Rv.core).take R.length
theorem TR.start (b : List UInt8) (L : List (UInt8 × List UInt8)) : TR b L 0 0 [] := fun _ _ _ _ _ _ => ⟨rfl, rfl⟩
theorem flat_at {gs : List (List Pr)} {g : List Pr} {i j : Nat} {p : Pr} (hg : gs[i]? = some g) (hp : g[j]? = some p) : gs.flatten[(gs.take i).flatten.length + j]? = some p := by
 obtain ⟨hi, e⟩ := List.getElem?_eq_some_iff.1 hg
 have e2 : gs = gs.take i ++ g :: gs.drop (i + 1) := by
   rw [← e, List.getElem_cons_drop, List.take_append_drop]
 have hj := (List.getElem?_eq_some_iff.1 hp).1
 have e3 : gs.flatten = (gs.take i).flatten ++ (g ++ (gs.drop (i + 1)).flatten) := by
   conv => lhs; rw [e2]
   rw [List.flatten_append, List.flatten_cons]
 rw [e3, List.getElem?_append_right (by omega), Nat.add_sub_cancel_left, List.getElem?_append_left hj]
 exact hp
theorem TR.next {b : List UInt8} {L : List (UInt8 × List UInt8)} {i j : Nat} {R : List Rv} {p : Pr} {v : Option (List UInt8 × Int × Bool × List UInt8)} (h : TR b L i j R) (hv : RecOf p v) {l : List Rv} {s t : Int} {gs : List (List Pr)} (hi : Is b l s t) (hf : Fms b l s t gs L) {g : List Pr} (hg : gs[i]? = some g) (hp : g[j]? = some p) :
   ∃ r, l[R.length]? = some r ∧ v = some r.core := by
 obtain ⟨h1, h2⟩ := h l s t gs hi hf
 have h3 := flat_at hg hp
 rw [hf.flat, ← h1, List.getElem?_map] at h3
 obtain ⟨r, hr, e⟩ := Option.map_eq_some_iff.1 h3
 refine ⟨r, hr, hv r (hi.unf.r r ?_) e⟩
 obtain ⟨hx, e⟩ := List.getElem?_eq_some_iff.1 hr
 rw [← e]; exact List.getElem_mem _
def BR (b : List UInt8) (L : List (UInt8 × List UInt8)) (i : Nat) (P : List Pr) : Prop := ∀ l s t gs, Is b l s t → Fms b l s t gs L → gs[i]? = some P
theorem TR.step {b : List UInt8} {L : List (UInt8 × List UInt8)} {i j : Nat} {R : List Rv} {P : List Pr} {p : Pr} {r : Rv} (h : TR b L i j R) (hb : BR b L i P) (hp : P[j]? = some p) (hv : RecOf p (some (r.k, r.seq, r.del, r.v))) : TR b L i (j + 1) (R ++ [r]) := fun l s t gs hi hf => by
 obtain ⟨h1, h2⟩ := h l s t gs hi hf
 obtain ⟨r', hr, e⟩ := h.next hv hi hf (hb l s t gs hi hf) hp
 injection e with e
 refine ⟨by rw [List.length_append, h1]; simp; omega, ?_⟩
 rw [List.map_append, h2, List.length_append, List.length_singleton, List.take_add_one]
 congr 1
 rw [List.getElem?_map, hr]
 show [r.core] = [r'.core]
 rw [← e]; rfl
theorem TR.no {b : List UInt8} {L : List (UInt8 × List UInt8)} {i j : Nat} {R : List Rv} {P : List Pr} {p : Pr} (h : TR b L i j R) (hb : BR b L i P) (hp : P[j]? = some p) (hv : RecOf p none) {r : List UInt8} (hs : Frm.Scans b L r) (hn : Frm.take r = none) (l : List Rv) (s t : Int) : ¬ Is b l s t := fun hi => by
 obtain ⟨_, gs, hf⟩ := hi.scanned hs hn
 obtain ⟨r', _, e⟩ := h.next hv hi hf (hb l s t gs hi hf) hp
 cases e
theorem TR.block {b : List UInt8} {L : List (UInt8 × List UInt8)} {i : Nat} {R : List Rv} {P : List Pr} (h : TR b L i P.length R) (hb : BR b L i P) : TR b L (i + 1) 0 R := fun l s t gs hi hf => by
 obtain ⟨h1, h2⟩ := h l s t gs hi hf
 obtain ⟨hx, e⟩ := List.getElem?_eq_some_iff.1 (hb l s t gs hi hf)
 refine ⟨?_, h2⟩
 rw [h1, List.take_succ_eq_append_getElem hx, List.flatten_append, e]
 simp
theorem BR.of {b : List UInt8} {L : List (UInt8 × List UInt8)} {i : Nat} {f : UInt8 × List UInt8} {P : List Pr} (hL : L[i]? = some f) (hi : i < L.length - 3) (hP : ∀ l0, Blk.WFb f.2 l0 → l0 = P) : BR b L i P := fun l s t gs h hf => by
 obtain ⟨g, h1, h2, _⟩ := hf.block hi hL
 rw [h1, hP g h2]
theorem block_no {b r : List UInt8} {L : List (UInt8 × List UInt8)} {i : Nat} {f : UInt8 × List UInt8} (hL : L[i]? = some f) (hi : i < L.length - 3) (hP : ∀ l0, ¬ Blk.WFb f.2 l0) (hs : Frm.Scans b L r) (hn : Frm.take r = none) (l : List Rv) (s t : Int) : ¬ Is b l s t := fun h => by
 obtain ⟨_, gs, hf⟩ := h.scanned hs hn
 obtain ⟨g, h1, h2, _⟩ := hf.block hi hL
 exact hP g h2
theorem BR.ne {b r : List UInt8} {L : List (UInt8 × List UInt8)} {i : Nat} (h : BR b L i []) (hs : Frm.Scans b L r) (hn : Frm.take r = none) (l : List Rv) (s t : Int) : ¬ Is b l s t := fun hi => by
 obtain ⟨_, gs, hf⟩ := hi.scanned hs hn
 obtain ⟨hx, e⟩ := List.getElem?_eq_some_iff.1 (h l s t gs hi hf)
 exact hf.gne _ (List.getElem_mem hx) e
theorem TR.few {b : List UInt8} {L : List (UInt8 × List UInt8)} {i j : Nat} {R : List Rv} (h : TR b L i j R) {r : List UInt8} (hs : Frm.Scans b L r) (hn : Frm.take r = none) {l : List Rv} {s t : Int} (hi : Is b l s t) : R.length ≤ 20000 := by
 obtain ⟨_, gs, hf⟩ := hi.scanned hs hn
 obtain ⟨_, h2⟩ := h l s t gs hi hf
 have := congrArg List.length h2
 rw [List.length_map, List.length_take, List.length_map] at this
 have := hi.unf.l2
 omega
theorem TR.all {b : List UInt8} {L : List (UInt8 × List UInt8)} {R : List Rv} (h : TR b L (L.length - 3) 0 R) {r : List UInt8} (hs : Frm.Scans b L r) (hn : Frm.take r = none) {l : List Rv} {s t : Int} (hi : Is b l s t) : l.map Rv.core = R.map Rv.core := by
 obtain ⟨_, gs, hf⟩ := hi.scanned hs hn
 obtain ⟨h1, h2⟩ := h l s t gs hi hf
 have hl := hf.len
 have e : L.length - 3 = gs.length := by omega
 rw [e, List.take_length, hf.flat, List.length_map] at h1
 rw [h2, List.take_of_length_le (by rw [List.length_map]; omega)]
end Tb
set_option maxHeartbeats 4000000 in
set_option maxRecDepth 100000 in
theorem record_any (p : Pv) (w : World) (base : Nat) (hbase : base ≤ w.heap.size) (hk : HBs w base p.kA p.k) (hkc : p.k.length ≤ p.kc) (hkm : p.kc ≤ 9223372036854775807) (hv : HBs w base p.vA p.v) (hvc : p.v.length ≤ p.vc) (hvm : p.vc ≤ 9223372036854775807) (hkl : p.k.length ≤ 70000) (hvl : p.v.length ≤ 70000) :
   Calls Tryz.prog 26 #[.agg #[.slice p.kA p.k.length p.kc, .slice p.vA p.v.length p.vc]] w (RecP w base p) := by
 obtain ⟨W2, hW2⟩ : ∃ W2, W2 = (w.alloc (.cells #[.slice p.kA p.k.length p.kc, .slice p.vA p.v.length p.vc] 77)).alloc (.cells #[.slice none 0 0, .int .i64 0, .bool false, .slice none 0 0] 35) := ⟨_, rfl⟩
 have hb2 : Below w.heap.size w W2 := by rw [hW2]; exact below_al2 _ _ _
 have hz2 : W2.heap.size = w.heap.size + 2 := by rw [hW2]; simp
 have y0 : W2.heap[w.heap.size]? = some (.cells #[.slice p.kA p.k.length p.kc, .slice p.vA p.v.length p.vc] 77) := by
   rw [hW2, heap_alloc_old _ _ (by simp)]; exact heap_alloc_new w _
 have y1 : W2.heap[w.heap.size + 1]? = some (.cells #[.slice none 0 0, .int .i64 0, .bool false, .slice none 0 0] 35) := by
   rw [hW2]
   have := heap_alloc_new (w.alloc (.cells #[.slice p.kA p.k.length p.kc, .slice p.vA p.v.length p.vc] 77)) (.cells #[.slice none 0 0, .int .i64 0, .bool false, .slice none 0 0] 35)
   simpa using this
 have KP := hid (parts_any p.kA p.kc p.k W2 (hk.below hb2).rd (by omega) hkc hkm)
 have HV := hid (hv.below hb2)
 have HVW := hid hv
 have HY0 := hid y0
 have HY1 := hid y1
 have HB2 := hid hb2
 have HZ2 := hid hz2
 have HHB := hid hbase
 have hbc0 := cell_of_row W2 w.heap.size 0 _ _ (0, 0) y0
 simp only [List.getElem?_toArray, List.getElem?_cons_zero] at hbc0
 have HW2 := hid hW2
 rw [hW2] at hbc0
 obtain ⟨kA, kc, k, vA, vc, v⟩ := p
 simp only at KP HV hkc hkm hvc hvm hkl hvl hbc0 HY0 HW2 ⊢
 clear hk hv hb2 hz2 y0 y1 hW2 hbase
 go_enter Tryz.func26, Tryz.ntmps26
 go_wp2_with fail
 rw [← HW2.out]
 refine KP.out.mono ?_
 intro e w1 hpp
 obtain ⟨hb1, hpp⟩ := hpp
 have HB1 := hid (HB2.out.trans (hb1.mono HB2.out.size))
 have hcw := (hb1.block (w.heap.size + 1) (by have := HZ2.out; omega)).trans HY1.out
 have hpx := (hb1.block w.heap.size (by have := HZ2.out; omega)).trans HY0.out
 have HCW := hid hcw
 have HV1 := hid (HV.out.below hb1)
 have q0 := cell_of_row w1 (w.heap.size + 1) 0 _ _ (0, 0) hcw
 have q1 := cell_of_row w1 (w.heap.size + 1) 1 _ _ (0, 0) hcw
 have q2 := cell_of_row w1 (w.heap.size + 1) 2 _ _ (0, 0) hcw
 have q3 := cell_of_row w1 (w.heap.size + 1) 3 _ _ (0, 0) hcw
 have f0 := frozen_of_row w1 (w.heap.size + 1) 0 _ _ hcw
 have f1 := frozen_of_row w1 (w.heap.size + 1) 1 _ _ hcw
 have f2 := frozen_of_row w1 (w.heap.size + 1) 2 _ _ hcw
 have f3 := frozen_of_row w1 (w.heap.size + 1) 3 _ _ hcw
 have r1 := cell_of_row w1 w.heap.size 1 _ _ (0, 0) hpx
 simp only [List.getElem?_toArray, List.getElem?_cons_zero, List.getElem?_cons_succ] at q0 q1 q2 q3 r1
 have HPX := hid hpx
 clear hcw hpx hb1 KP hbc0
 have tr : True := trivial
 rcases hpp with ⟨l, hall, hkey, LA, LC, rfl, hrp⟩ | ⟨hno, rfl⟩
 · have HKEY := hid hkey
   have HALL := hid hall
   by_cases h2 : l.length = 2
   · obtain ⟨p0, p1, rfl⟩ : ∃ p0 p1, l = [p0, p1] := by
       match l, h2 with
       | [a, b], _ => exact ⟨a, b, rfl⟩
     obtain ⟨b, off, rfl, hbl, c00, c01, c02⟩ := hrp.at_ (k := 0) (by simp)
     obtain ⟨b', off', e', _, c10, c11, c12⟩ := hrp.at_ (k := 1) (by simp)
     injection e' with e'; injection e' with e1 e2; subst e1 e2
     have hrd2 : True := trivial
     cases hrd2 with
     | intro =>
       have d00 : w1.cell? ⟨b, off, none⟩ = some (.bool p0.t) := by simpa using c00
       have d02 : w1.cell? ⟨b, off + 2, none⟩ = some (.string p0.s) := by simpa using c02
       have d10 : w1.cell? ⟨b, off + 3, none⟩ = some (.bool p1.t) := by simpa using c10
       have d11 : w1.cell? ⟨b, off + 3 + 1, none⟩ = some (.int .u64 (p1.n : Int)) := by simpa using c11
       clear c00 c01 c02 c10 c11 c12
       obtain ⟨t0, n0, s0⟩ := p0
       obtain ⟨t1, n1, s1⟩ := p1
       simp only at d00 d02 d10 d11
       clear hall hkey hrp
       rcases t0 with _ | _
       · have HNO : Hid (RecOf ⟨k, v⟩ none) := hid (recOf_no HALL.out HKEY.out (fun k n v d e _ _ => by injection e with e1 _; injection e1 with e1; cases e1))
         clear tr
         go_wp2_with fail
         refine bodyPost_ret (results_cb2 rfl _ _ (w.heap.size + 1) 35 #[.slice none 0 0, .int .i64 0, .bool false, .slice none 0 0] _ _ rfl (heap_set4 HCW.out) Tryz.underlying35 rfl rec_size) rfl ?_
         exact recP_no ((((HB1.out.setCell (by simp) _).setCell (by simp) _).setCell (by simp) _).setCell (by simp) _) HNO.out
       rcases t1 with _ | _
       case' true =>
         have HNO : Hid (RecOf ⟨k, v⟩ none) := hid (recOf_no HALL.out HKEY.out (fun k n v d e _ _ => by injection e with _ e1; injection e1 with e1 _; injection e1 with e1; cases e1))
         clear tr
         go_wp2_with fail
         refine bodyPost_ret (results_cb2 rfl _ _ (w.heap.size + 1) 35 #[.slice none 0 0, .int .i64 0, .bool false, .slice none 0 0] _ _ rfl (heap_set4 HCW.out) Tryz.underlying35 rfl rec_size) rfl ?_
         exact recP_no ((((HB1.out.setCell (by simp) _).setCell (by simp) _).setCell (by simp) _).setCell (by simp) _) HNO.out
       by_cases hn1 : (1099511627776 : Int) ≤ (n1 : Int)
       · have HNO : Hid (RecOf ⟨k, v⟩ none) := hid (recOf_no HALL.out HKEY.out (fun k n v d e hn _ => by injection e with _ e1; injection e1 with e1 _; injection e1 with _ e2 _; omega))
         clear tr
         go_wp2_with fail
         refine bodyPost_ret (results_cb2 rfl _ _ (w.heap.size + 1) 35 #[.slice none 0 0, .int .i64 0, .bool false, .slice none 0 0] _ _ rfl (heap_set4 HCW.out) Tryz.underlying35 rfl rec_size) rfl ?_
         exact recP_no ((((HB1.out.setCell (by simp) _).setCell (by simp) _).setCell (by simp) _).setCell (by simp) _) HNO.out
       rcases v with _ | ⟨hd, v⟩
       · have HNO : Hid (RecOf ⟨k, []⟩ none) := hid (recOf_no HALL.out HKEY.out (fun k n v d _ _ e => by cases e))
         clear tr
         go_wp2_with fail
         refine bodyPost_ret (results_cb2 rfl _ _ (w.heap.size + 1) 35 #[.slice none 0 0, .int .i64 0, .bool false, .slice none 0 0] _ _ rfl (heap_set4 HCW.out) Tryz.underlying35 rfl rec_size) rfl ?_
         exact recP_no ((((HB1.out.setCell (by simp) _).setCell (by simp) _).setCell (by simp) _).setCell (by simp) _) HNO.out
       obtain ⟨vg, voff, rfl, hvg, vcell⟩ := HV1.out.rd.at_ (k := 0) (by simp)
       simp only [List.getElem_cons_zero, Nat.add_zero] at vcell
       obtain ⟨x, hx⟩ : ∃ x, x = hd.toNat := ⟨_, rfl⟩
       rw [← hx] at vcell
       have HX := hid hx
       clear hx
       have hln : (hd :: v).length = v.length + 1 := rfl
       have HVL := hid hln
       obtain ⟨nv, hnv⟩ : ∃ nv, nv = v.length := ⟨_, rfl⟩
       rw [hln, ← hnv] at r1 hvc hvl
       have HNV := hid hnv
       have i0 : (0 : Int) < (nv : Int) + 1 := by omega
       have i1 : ((nv : Int) + 1 == 0) = false := by simp; omega
       clear hln hnv
       by_cases hx1 : (1 : Int) < (x : Int)
       · have HNO : Hid (RecOf ⟨k, hd :: v⟩ none) := hid (recOf_no HALL.out HKEY.out (fun k n v d _ _ e => by
             injection e with e1 _
             have h1 := HX.out
             rw [e1] at h1
             cases d <;> simp at h1 <;> omega))
         clear tr
         go_wp2_with fail
         refine bodyPost_ret (results_cb2 rfl _ _ (w.heap.size + 1) 35 #[.slice none 0 0, .int .i64 0, .bool false, .slice none 0 0] _ _ rfl (heap_set4 HCW.out) Tryz.underlying35 rfl rec_size) rfl ?_
         exact recP_no ((((HB1.out.setCell (by simp) _).setCell (by simp) _).setCell (by simp) _).setCell (by simp) _) HNO.out
       have hrun := run_bytes_of_string (P := Tryz.prog) w1.drew 9 22 5 s0 Tryz.underlying9 bt.sl bt.el
       obtain ⟨cap, hcap⟩ : ∃ cap, cap = grownCap w1.drew s0.size 0 5 := ⟨_, rfl⟩
       have hcap1 : s0.size ≤ cap := by rw [hcap]; exact grownCap_ge w1.drew s0.size 0 5
       have hs0 : s0.data.toList.length ≤ 70000 := by
         have h1 := key_text_len (p0 := ⟨true, n0, s0⟩) (l := [⟨false, n1, s1⟩]) rfl
         rw [HKEY.out] at h1
         exact Nat.le_trans h1 hkl
       have hs0' : s0.size = s0.data.toList.length := by simp
       rw [← hcap] at hrun
       obtain ⟨X9, hX9⟩ : ∃ X9, X9 = w1.drew.drew.alloc (.cells (bytesRow s0 cap) 5 ((bytesRow s0 cap).size, (bytesRow s0 cap).size + 1)) := ⟨_, rfl⟩
       rw [← hX9] at hrun
       have hb9 : Below w1.heap.size w1 X9 := by rw [hX9]; exact ((Below.refl _ _).drew.drew).alloc (Nat.le_refl _) _
       have hr9 : RdB X9 (w1.heap.size + 1) (some ⟨w1.heap.size, 0, none⟩) s0.data.toList := by rw [hX9]; exact rdB_bytesRow w1.drew s0 cap _ _
       have ht9 : X9.heap[w1.heap.size]? = some (.cells (bytesRow s0 cap) 5 ((bytesRow s0 cap).size, (bytesRow s0 cap).size + 1)) := by rw [hX9]; exact heap_alloc_new w1.drew.drew _
       have hz9 : X9.heap.size = w1.heap.size + 1 := by rw [hX9]; simp
       have HB9 := hid hb9
       have hhw : w.heap.size + 1 < w1.heap.size := (Array.getElem?_eq_some_iff.1 HCW.out).1
       have hcw9 := (hb9.block _ hhw).trans HCW.out
       have HCW9 := hid hcw9
       have q0 := cell_of_row X9 (w.heap.size + 1) 0 _ _ (0, 0) hcw9
       have q1 := cell_of_row X9 (w.heap.size + 1) 1 _ _ (0, 0) hcw9
       have q2 := cell_of_row X9 (w.heap.size + 1) 2 _ _ (0, 0) hcw9
       have q3 := cell_of_row X9 (w.heap.size + 1) 3 _ _ (0, 0) hcw9
       have f0 := frozen_of_row X9 (w.heap.size + 1) 0 _ _ hcw9
       have f1 := frozen_of_row X9 (w.heap.size + 1) 1 _ _ hcw9
       have f2 := frozen_of_row X9 (w.heap.size + 1) 2 _ _ hcw9
       have f3 := frozen_of_row X9 (w.heap.size + 1) 3 _ _ hcw9
       simp only [List.getElem?_toArray, List.getElem?_cons_zero, List.getElem?_cons_succ] at q0 q1 q2 q3
       have HKK : Hid (HBs X9 base (some ⟨w1.heap.size, 0, none⟩) s0.data.toList) := hid ⟨by rw [hz9]; exact hr9, fun _ g hg => by
         have : w1.heap.size = g := by simpa [blk] using hg
         exact .inr ⟨_, _, by rw [← this]; exact ht9⟩⟩
       have HV9 := hid (HV1.out.below hb9)
       have hbne : b ≠ w.heap.size + 1 := fun e => by
         subst e
         have h1 := d02
         have h2 : ∀ j, w1.cell? ⟨w.heap.size + 1, j, none⟩ ≠ some (.string s0) := fun j => by
           rw [cell_of_row w1 (w.heap.size + 1) j _ _ (0, 0) HCW.out]
           match j with
           | 0 => simp
           | 1 => simp
           | 2 => simp
           | 3 => simp
           | j + 4 => simp
         exact h2 _ h1
       have hvne : vg ≠ w.heap.size + 1 := fun e => by
         subst e
         have h1 := vcell
         have h2 : ∀ j, w1.cell? ⟨w.heap.size + 1, j, none⟩ ≠ some (.int .u8 (x : Int)) := fun j => by
           rw [cell_of_row w1 (w.heap.size + 1) j _ _ (0, 0) HCW.out]
           match j with
           | 0 => simp
           | 1 => simp
           | 2 => simp
           | 3 => simp
           | j + 4 => simp
         exact h2 _ h1
       have SX : ∀ X, Below w1.heap.size w1 X → X.cell? ⟨b, off + 2, none⟩ = some (.string s0) ∧ X.cell? ⟨b, off + 3 + 1, none⟩ = some (.int .u64 (n1 : Int)) ∧ X.cell? ⟨w.heap.size, 1, none⟩ = some (.slice (some ⟨vg, voff, none⟩) (nv + 1) vc) ∧ X.cell? ⟨vg, voff, none⟩ = some (.int .u8 (x : Int)) := fun X hb =>
         ⟨(hb.cell (p := ⟨b, off + 2, none⟩) hbl).trans d02, (hb.cell (p := ⟨b, off + 3 + 1, none⟩) hbl).trans d11, (hb.cell (p := ⟨w.heap.size, 1, none⟩) (by simp; omega)).trans r1, (hb.cell (p := ⟨vg, voff, none⟩) hvg).trans vcell⟩
       have HS1 := hid (SX w1.drew (Below.refl _ _).drew)
       have HS9 := hid (SX X9 hb9)
       have HSS : Hid (∀ a0 a1 a2 a3, ((((X9.setCell ⟨w.heap.size + 1, 0, none⟩ a0).setCell ⟨w.heap.size + 1, 1, none⟩ a1).setCell ⟨w.heap.size + 1, 2, none⟩ a2).setCell ⟨w.heap.size + 1, 3, none⟩ a3).cell? ⟨b, off + 2, none⟩ = some (.string s0) ∧ ((((X9.setCell ⟨w.heap.size + 1, 0, none⟩ a0).setCell ⟨w.heap.size + 1, 1, none⟩ a1).setCell ⟨w.heap.size + 1, 2, none⟩ a2).setCell ⟨w.heap.size + 1, 3, none⟩ a3).cell? ⟨b, off + 3 + 1, none⟩ = some (.int .u64 (n1 : Int)) ∧ ((((X9.setCell ⟨w.heap.size + 1, 0, none⟩ a0).setCell ⟨w.heap.size + 1, 1, none⟩ a1).setCell ⟨w.heap.size + 1, 2, none⟩ a2).setCell ⟨w.heap.size + 1, 3, none⟩ a3).cell? ⟨w.heap.size, 1, none⟩ = some (.slice (some ⟨vg, voff, none⟩) (nv + 1) vc) ∧ ((((X9.setCell ⟨w.heap.size + 1, 0, none⟩ a0).setCell ⟨w.heap.size + 1, 1, none⟩ a1).setCell ⟨w.heap.size + 1, 2, none⟩ a2).setCell ⟨w.heap.size + 1, 3, none⟩ a3).cell? ⟨vg, voff, none⟩ = some (.int .u8 (x : Int))) := hid (fun a0 a1 a2 a3 => by
         have hk : ∀ g o, g ≠ w.heap.size + 1 → ((((X9.setCell ⟨w.heap.size + 1, 0, none⟩ a0).setCell ⟨w.heap.size + 1, 1, none⟩ a1).setCell ⟨w.heap.size + 1, 2, none⟩ a2).setCell ⟨w.heap.size + 1, 3, none⟩ a3).cell? ⟨g, o, none⟩ = X9.cell? ⟨g, o, none⟩ := fun g o hg => World.cell?_of_block (by
           rw [heap_setD _ hg, heap_setD _ hg, heap_setD _ hg, heap_setD _ hg])
         obtain ⟨h1, h2, h3, h4⟩ := SX X9 hb9
         exact ⟨(hk _ _ hbne).trans h1, (hk _ _ hbne).trans h2, (hk _ _ (by omega)).trans h3, (hk _ _ hvne).trans h4⟩)
       have hnw : IntKind.i64.wrap (n1 : Int) = (n1 : Int) := by rw [IntKind.wrap_i64]; omega
       have hnw2 : IntKind.i64.wrap (1099511627776 - (n1 : Int)) = 1099511627776 - (n1 : Int) := by rw [IntKind.wrap_i64]; omega
       obtain ⟨dB, hdB⟩ : ∃ dB, dB = ((x : Int) == 1) := ⟨_, rfl⟩
       have HDB : Hid ((hd == 1) = dB) := hid (by
         rw [hdB, HX.out, Bool.eq_iff_iff, beq_iff_eq, beq_iff_eq, ← UInt8.toNat_inj]
         have : (1 : UInt8).toNat = 1 := rfl
         rw [this]; omega)
       have hdx : ((x : Int) == 1) = dB := hdB.symm
       have HRUN := hid hrun
       have HNW := hid hnw
       have HNW2 := hid hnw2
       have HDX := hid hdx
       have HCAP : Hid (s0.size ≤ cap) := hid hcap1
       have HS0 := hid hs0
       have HS0' := hid hs0'
       have j1 : (1 : Int) ≤ (nv : Int) + 1 := by omega
       have hx1' : decide ((1 : Int) < (x : Int)) = false := decide_eq_false hx1
       have hn1' : decide ((1099511627776 : Int) ≤ (n1 : Int)) = false := decide_eq_false hn1
       have hx2 : (x : Int) ≤ 1 := by omega
       have hn2 : (n1 : Int) < 1099511627776 := by omega
       clear hx1 hn1
       have j2 : (nv : Int) + 1 ≤ (vc : Int) := by omega
       clear hrun hnw hnw2 hdx
       clear hcap hX9 hb9 hr9 ht9 hz9 hcw9 hbne hvne SX hdB hcap1 hs0 hs0' tr
       by_cases hvc1 : vc = 1
       · subst hvc1
         have hnv0 : nv = 0 := by omega
         subst hnv0
         go_wp2_with fail
         have hrun := HRUN.out
         have hnw := HNW.out
         have hnw2 := HNW2.out
         have hdx := HDX.out
         go_region_held (fun X => X.cell? ⟨b, off + 2, none⟩ = some (.string s0) ∧ X.cell? ⟨b, off + 3 + 1, none⟩ = some (.int .u64 (n1 : Int)) ∧ X.cell? ⟨w.heap.size, 1, none⟩ = some (.slice (some ⟨vg, voff, none⟩) (0 + 1) 1) ∧ X.cell? ⟨vg, voff, none⟩ = some (.int .u8 (x : Int))) (first | exact HS1.out | exact HS9.out | exact HSS.out _ _ _ _) (fail)
         go_wp2_with fail
         refine bodyPost_ret (results_cb2 rfl _ _ (w.heap.size + 1) 35 #[.slice (some ⟨w1.heap.size, 0, none⟩) s0.size cap, .int .i64 (1099511627776 - (n1 : Int)), .bool dB, .slice (some ⟨vg, voff, none⟩) 0 0] _ _ rfl (heap_set4 HCW9.out) Tryz.underlying35 rfl rec_size) rfl ?_
         have hvt := HV9.out.tail (c := 1) (by have := HNV.out; omega)
         rw [if_pos rfl] at hvt
         have hb9' := HB1.out.trans (HB9.out.mono HB1.out.size)
         refine ⟨(((hb9'.setCell (by simp) _).setCell (by simp) _).setCell (by simp) _).setCell (by simp) _, .inr ⟨⟨some ⟨w1.heap.size, 0, none⟩, cap, s0.data.toList, 1099511627776 - (n1 : Int), dB, some ⟨vg, voff, none⟩, 0, v⟩, ?_, ?_, (HKK.out.set4 HCW9.out (by decide) (by have := HHB.out; omega)), ?_, (hvt.set4 HCW9.out (by decide) (by have := HHB.out; omega)), ?_, ?_, ?_⟩⟩
         · unfold Rv.val; simp only; rw [← HS0'.out, ← HNV.out]; rfl
         · have h1 := recOf_yes (p := ⟨k, hd :: v⟩) HALL.out HKEY.out rfl
           rw [HDB.out] at h1
           exact h1
         · show s0.data.toList.length ≤ cap; rw [← HS0'.out]; exact HCAP.out
         · show v.length ≤ 0; rw [← HNV.out]; omega
         · show s0.data.toList.length ≤ k.length
           have h1 := key_text_len (p0 := ⟨true, n0, s0⟩) (l := [⟨false, n1, s1⟩]) rfl
           rw [HKEY.out] at h1
           exact h1
         · show v.length ≤ (hd :: v).length; simp
       · have hvc2 : (1 : Int) < (vc : Int) := by omega
         go_wp2_with fail
         have hrun := HRUN.out
         have hnw := HNW.out
         have hnw2 := HNW2.out
         have hdx := HDX.out
         go_region_held (fun X => X.cell? ⟨b, off + 2, none⟩ = some (.string s0) ∧ X.cell? ⟨b, off + 3 + 1, none⟩ = some (.int .u64 (n1 : Int)) ∧ X.cell? ⟨w.heap.size, 1, none⟩ = some (.slice (some ⟨vg, voff, none⟩) (nv + 1) vc) ∧ X.cell? ⟨vg, voff, none⟩ = some (.int .u8 (x : Int))) (first | exact HS1.out | exact HS9.out | exact HSS.out _ _ _ _) (fail)
         go_wp2_with fail
         refine bodyPost_ret (results_cb2 rfl _ _ (w.heap.size + 1) 35 #[.slice (some ⟨w1.heap.size, 0, none⟩) s0.size cap, .int .i64 (1099511627776 - (n1 : Int)), .bool dB, .slice (some ⟨vg, voff + 1, none⟩) nv (vc - 1)] _ _ rfl (heap_set4 HCW9.out) Tryz.underlying35 rfl rec_size) rfl ?_
         have hvt := HV9.out.tail (c := vc) (by have := HNV.out; omega)
         rw [if_neg hvc1] at hvt
         have hb9' := HB1.out.trans (HB9.out.mono HB1.out.size)
         refine ⟨(((hb9'.setCell (by simp) _).setCell (by simp) _).setCell (by simp) _).setCell (by simp) _, .inr ⟨⟨some ⟨w1.heap.size, 0, none⟩, cap, s0.data.toList, 1099511627776 - (n1 : Int), dB, some ⟨vg, voff + 1, none⟩, (vc - 1), v⟩, ?_, ?_, (HKK.out.set4 HCW9.out (by decide) (by have := HHB.out; omega)), ?_, (hvt.set4 HCW9.out (by decide) (by have := HHB.out; omega)), ?_, ?_, ?_⟩⟩
         · unfold Rv.val; simp only; rw [← HS0'.out, ← HNV.out]; rfl
         · have h1 := recOf_yes (p := ⟨k, hd :: v⟩) HALL.out HKEY.out rfl
           rw [HDB.out] at h1
           exact h1
         · show s0.data.toList.length ≤ cap; rw [← HS0'.out]; exact HCAP.out
         · show v.length ≤ (vc - 1); rw [← HNV.out]; omega
         · show s0.data.toList.length ≤ k.length
           have h1 := key_text_len (p0 := ⟨true, n0, s0⟩) (l := [⟨false, n1, s1⟩]) rfl
           rw [HKEY.out] at h1
           exact h1
         · show v.length ≤ (hd :: v).length; simp
   · have l1 : ((l.length : Int) == 2) = false := by simp; omega
     have l2 : ((l.length : Int) != 2) = true := by simp; omega
     have HNO : Hid (RecOf ⟨k, v⟩ none) := hid (recOf_no HALL.out HKEY.out (fun k n v d e _ _ => h2 (by rw [e]; rfl)))
     clear h2
     go_wp2_with fail
     refine bodyPost_ret (results_cb2 rfl _ _ (w.heap.size + 1) 35 #[.slice none 0 0, .int .i64 0, .bool false, .slice none 0 0] _ _ rfl (heap_set4 HCW.out) Tryz.underlying35 rfl rec_size) rfl ?_
     exact recP_no ((((HB1.out.setCell (by simp) _).setCell (by simp) _).setCell (by simp) _).setCell (by simp) _) HNO.out
 · have HNO : Hid (RecOf ⟨k, v⟩ none) := hid (recOf_no1 hno)
   clear hno
   go_wp2_with fail
   refine bodyPost_ret (results_cb2 rfl _ _ (w.heap.size + 1) 35 #[.slice none 0 0, .int .i64 0, .bool false, .slice none 0 0] _ _ rfl (heap_set4 HCW.out) Tryz.underlying35 rfl rec_size) rfl ?_
   exact recP_no ((((HB1.out.setCell (by simp) _).setCell (by simp) _).setCell (by simp) _).setCell (by simp) _) HNO.out
set_option maxHeartbeats 2000000 in
set_option maxRecDepth 100000 in
theorem same_yes (a b : Rv) (w : World) (ha : Rv.Ok w w.heap.size a) (hb : Rv.Ok w w.heap.size b) (hc : a.core = b.core) : Calls Tryz.prog 21 #[a.val, b.val] w fun e w' => e = .returned (.bool true) ∧ Below w.heap.size w w' := by
 obtain ⟨W, hW⟩ : ∃ W : World, (w.alloc (.cells a.cells.toArray 35)).alloc (.cells b.cells.toArray 35) = W := ⟨_, rfl⟩
 have HB : Hid (Below w.heap.size w W) := hid (by rw [← hW]; exact ((Below.refl _ _).alloc (Nat.le_refl _) _).alloc (by simp) _)
 have s1 := strB_of (c := a.kc) (ha.key.below HB.out (Nat.le_refl _))
 have s2 := strB_of (c := b.kc) (hb.key.below HB.out (Nat.le_refl _))
 have s3 := strB_of (c := a.vc) (ha.val.below HB.out (Nat.le_refl _))
 have s4 := strB_of (c := b.vc) (hb.val.below HB.out (Nat.le_refl _))
 rw [← hW] at s1 s2 s3 s4
 unfold StrB at s1 s2 s3 s4
 obtain ⟨kA, kc, k, seq, del, vA, vc, v⟩ := a
 obtain ⟨kB, kd, m, seq2, del2, vB, vd, v2⟩ := b
 unfold Rv.core at hc
 injection hc with e1 hc; injection hc with e2 hc; injection hc with e3 e4
 simp only at e1 e2 e3 e4
 subst e1 e2 e3 e4
 simp only [Rv.cells, Rv.val] at s1 s2 s3 s4 hW ⊢
 obtain ⟨SA, hSA⟩ : ∃ SA : ByteArray, SA = ⟨k.toArray⟩ := ⟨_, rfl⟩
 obtain ⟨SV, hSV⟩ : ∃ SV : ByteArray, SV = ⟨v.toArray⟩ := ⟨_, rfl⟩
 rw [← hSA] at s1 s2
 rw [← hSV] at s3 s4
 clear hSA hSV ha hb
 have HW := hid hW
 clear hW
 go_enter Tryz.func21, Tryz.ntmps21
 go_wp2_with fail
 go_ret
 exact ⟨by simp, by have := HB.out; rw [← HW.out] at this; exact this⟩
set_option maxHeartbeats 2000000 in
set_option maxRecDepth 100000 in
theorem sameAll_yes (A B : Option Addr) (c d : Nat) (l m : List Rv) (w : World) (ha : RdRv w w.heap.size A l) (hb : RdRv w w.heap.size B m) (hc : l.map Rv.core = m.map Rv.core) (hl : l.length ≤ 1000000000) :
   Calls Tryz.prog 16 #[.slice A l.length c, .slice B m.length d] w fun e w' => e = .returned (.bool true) ∧ Below w.heap.size w w' := by
 have HA := hid ha
 have HB := hid hb
 have HC := hid hc
 have hlm : m.length = l.length := by
   have := congrArg List.length hc
   simpa using this.symm
 rw [hlm]
 have HLM := hid hlm
 clear ha hb hc hlm
 go_enter Tryz.func16, Tryz.ntmps16
 go_wp2_with fail
 go_loopw [5] (fun i wr => ∃ k : Nat, k ≤ l.length ∧ i = .int .i64 (k : Int) ∧ Hid (Below w.heap.size w wr)) (fun i _ => l.length - (intOf i).toNat)
 case atStart => exact ⟨0, by omega, rfl, hid (Below.refl _ _)⟩
 case round =>
   obtain ⟨k, hk, rfl, HW⟩ := hrel
   by_cases hlt : k < l.length
   · obtain ⟨V, hV⟩ : ∃ V, wr.drew = V := ⟨_, rfl⟩
     have hwV : Below w.heap.size w V := by rw [← hV]; exact HW.out.drew
     have hkm : k < m.length := by have := HLM.out; omega
     obtain ⟨ab, ao, rfl, hab, hac⟩ := (HA.out.below hwV (Nat.le_refl _)).row4 (by omega)
     obtain ⟨bb, bo, rfl, hbb, hbc⟩ := (HB.out.below hwV (Nat.le_refl _)).row4 (by omega)
     obtain ⟨a0, a1, a2, a3⟩ := hac k hlt
     obtain ⟨b0, b1, b2, b3⟩ := hbc k hkm
     have hoa := ((HA.out.below hwV (Nat.le_refl _)).ok _ (List.getElem_mem hlt)).more hwV.size
     have hob := ((HB.out.below hwV (Nat.le_refl _)).ok _ (List.getElem_mem hkm)).more hwV.size
     have hco : l[k].core = m[k].core := by
       have h1 : (l.map Rv.core)[k]? = (m.map Rv.core)[k]? := by rw [HC.out]
       rw [List.getElem?_map, List.getElem?_map, List.getElem?_eq_getElem hlt, List.getElem?_eq_getElem hkm] at h1
       simpa using h1
     have KS := hid (same_yes l[k] m[k] V hoa hob hco)
     obtain ⟨x, hx⟩ : ∃ x, x = l[k] := ⟨_, rfl⟩
     obtain ⟨y, hy⟩ : ∃ y, y = m[k] := ⟨_, rfl⟩
     rw [← hx] at KS a0 a1 a2 a3
     rw [← hy] at KS b0 b1 b2 b3
     obtain ⟨kA, kc, kk, seq, del, vA, vc, v⟩ := x
     obtain ⟨kB, kd, mm, seq2, del2, vB, vd, v2⟩ := y
     simp only [Rv.val] at KS a0 a1 a2 a3 b0 b1 b2 b3
     have HWV := hid hwV
     clear hac hbc hoa hob hco hx hy hwV
     go_wp2_with fail
     refine region_still_tail 8 (by kernel_rfl) (by kernel_rfl) hV ?_
     clear hV
     simp only [List.take_succ_cons, List.take_zero, List.drop_succ_cons, List.drop_zero]
     repeat still_step
     refine wpStill_nil ?_
     go_wp2_with fail
     refine KS.out.mono ?_
     rintro e w' ⟨rfl, hb'⟩
     have HB' := hid (HWV.out.trans (hb'.mono HWV.out.size))
     clear hb' a0 a1 a2 a3 b0 b1 b2 b3
     go_wp2_with fail
     go_roundw
     case rel => exact ⟨k + 1, hlt, by simp, HB'⟩
     case measure => simp [intOf]; omega
   · go_wp2_with fail
     go_ret
     exact ⟨rfl, HW.out⟩
set_option maxHeartbeats 2000000 in
set_option maxRecDepth 100000 in
theorem rscan_any (A : Option Addr) (c : Nat) (b : List UInt8) (w : World) (h : RdB w w.heap.size A b) (hl : b.length ≤ 1000000000) (hc : b.length ≤ c) (hcc : c ≤ 9223372036854775807) :
   Calls Tryz.prog 28 #[.slice A b.length c] w (Scanned w b) := by
 have HH := hid h
 clear h
 go_enter Tryz.func28, Tryz.ntmps28
 go_wp2_with fail
 go_loopw [4, 5] (fun v u wr => ∃ (OA : Option Addr) (OC : Nat) (l : List Fv) (B : Option Addr) (d : Nat) (r : List UInt8), v = .slice OA l.length OC ∧ u = .slice B r.length d ∧ r.length ≤ d ∧ d ≤ 9223372036854775807 ∧ Hid (Frm.Scans b (l.map Fv.pr) r) ∧ Hid (OwnFv 96 wr w.heap.size OA OC l) ∧ Hid (RdB wr wr.heap.size B r) ∧ Hid (r ≠ [] → Off [blk OA] (blk B)) ∧ Hid (Below w.heap.size w wr)) (fun _ u _ => (match u with | .slice _ n _ => n | _ => 0))
 case atStart => exact ⟨none, 0, [], A, c, b, rfl, rfl, hc, hcc, hid (Frm.Scans.nil b), hid OwnFv.nil, HH, hid (fun _ g hg hm => by simp [blk] at hm), hid (Below.refl _ _)⟩
 case round =>
   obtain ⟨OA, OC, l, B, d, r, rfl, rfl, hrd, hdd, HS, HO, HR, HOF, HB⟩ := hrel
   have hlen := HS.out.len
   rw [List.length_map] at hlen
   have KT := rftake_any B d r wr HR.out (by omega) hrd hdd
   cases ht : Frm.take r with
   | none =>
     rw [ht] at KT
     have HK := hid KT
     have HT := hid ht
     clear KT ht
     go_wp2_with fail
     refine HK.out.mono ?_
     rintro e w1 ⟨hb1, rfl⟩
     have HO1 := hid (HO.out.call hb1)
     have HB1 := hid (HB.out.trans (hb1.mono HB.out.size))
     clear hb1
     go_wp2_with fail
     go_ret2
     have hbA : ∀ o, Below w1.heap.size w1 (w1.alloc o) := fun o => (Below.refl _ _).alloc (Nat.le_refl _) o
     exact ⟨l, r, OA, OC, HS.out, HT.out, rfl, (HO1.out.call (hbA _)).rd, HO1.out.row.cap, ownS_cap_le HO1.out.row, HB1.out.trans ((hbA _).mono HB1.out.size)⟩
   | some v =>
     obtain ⟨k, t, r'⟩ := v
     rw [ht] at KT
     have HK := hid KT
     have HT := hid ht
     clear KT ht
     go_wp2_with fail
     refine HK.out.mono ?_
     have ht2 := HT.out
     rintro e w1 ⟨hb1, A1, c1, B1, d1, rfl, ho1, hr1, hd1, hdd1, hf1⟩
     have HO1 := hid (HO.out.call hb1)
     have HB1 := hid (HB.out.trans (hb1.mono HB.out.size))
     have HS1 := hid (HS.out.step HT.out)
     have HOB := hid (ho1.mono HB.out.size)
     have HFR := hid (off_frs (HOF.out (fun e => by rw [e] at ht2; cases ht2)) HO.out.lts hf1)
     have HFT : Hid (Off [blk OA] (blk A1)) := hid (Off.fresh (n := wr.heap.size) (fun g hg => (ho1.blk_ge g hg).1) HO.out.lts)
     have HR1 := hid hr1
     clear hb1 ho1 hf1 hr1 ht2
     have FT := 96
     have HW2 : Hid (∀ o p, OwnFv 96 ((w1.alloc o).alloc p) w.heap.size OA OC l ∧ Own ((w1.alloc o).alloc p) w.heap.size 5 A1 c1 t ∧ RdB ((w1.alloc o).alloc p) ((w1.alloc o).alloc p).heap.size B1 r' ∧ Below w.heap.size w ((w1.alloc o).alloc p)) := hid (fun o p =>
       ⟨HO1.out.call (below_al2 _ _ _), HOB.out.below (below_al2 _ _ _), (HR1.out.below (below_al2 _ _ _) (Nat.le_refl _)).more (below_al2 _ _ _).size, HB1.out.trans ((below_al2 _ _ _).mono HB1.out.size)⟩)
     have hws := HB1.out.size
     clear FT
     go_wp2_with (at_builtin; refine wpList_append_s _ rfl _ _ rfrT rfl w.heap.size OA OC l rfl (HW2.out _ _).1.row (w1.heap.size + 2) (some ⟨w1.heap.size + 1, 0, none⟩) 1 1 [⟨k, A1, c1, t⟩] rfl rfl (rd_frame_new2 _ w1 _ ⟨k, A1, c1, t⟩) (by simp; omega) (by unfold maxLen; simp; omega) (by simp; omega) ?_)
     intro OA' OC' L' w9 hL ho hg hat
     rw [hL] at ho
     have HO9 := hid ((HW2.out _ _).1.app (f := ⟨k, A1, c1, t⟩) (HW2.out _ _).2.1 HFT.out ho hg (by simpa using hat))
     have HR9 := hid (rdB_kept (HW2.out _ _).2.2.1 hg (HFR.out.ne (by simp)))
     have HOF9 := hid (off_row HFR.out hat HR1.out (by omega))
     have HB9 := hid ((HW2.out _ _).2.2.2.grown hg (HW2.out _ _).2.2.2.size (fun g hgg => (HO1.out.row.blk_ge g hgg).1))
     obtain ⟨L, hL2⟩ : ∃ L, L = l ++ [(⟨k, A1, c1, t⟩ : Fv)] := ⟨_, rfl⟩
     rw [← hL2] at hL HO9
     subst hL
     have HS9 : Hid (Frm.Scans b (L'.map Fv.pr) r') := hid (by rw [hL2, List.map_append]; exact HS1.out)
     have hlt : r'.length < r.length := by
       have := (Frm.of_take HT.out).1
       have h2 := Frm.put_pos k t
       rw [this, List.length_append]; omega
     clear hL2 ho hg hat HW2 HO1 HOB HFR HR1 HS1 HS HO HR HOF HB HK HT HFT HB1 hws
     go_wp2_with fail
     go_roundw
     case rel => exact ⟨OA', OC', L', B1, d1, r', rfl, rfl, hd1, hdd1, HS9, HO9, HR9, HOF9, HB9⟩
     case measure => simpa using hlt
end Go.Proofs.YtgafionfojnieaaGreatDoor
