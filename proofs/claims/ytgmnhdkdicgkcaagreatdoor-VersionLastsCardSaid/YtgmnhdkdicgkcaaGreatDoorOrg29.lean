/- Parts of the proof, one behind the other: Bytes that grow behind a box: Encode's closure 'numbers'.; Contract: version.Encode.; Contract: the reference's Encode.; Decode's closures 'number' and 'text'.; Plain: reading with a mark 'amiss' (none), as Decode does it. -/
import Derived.Test.YtgmnhdkdicgkcaaGreatDoorOrg27
import Derived.Test.YtgmnhdkdicgkcaaGreatDoorOrg28
namespace Go.Proofs.YtgmnhdkdicgkcaaGreatDoor
open Go.RowKit Go.Maps
open Lib (hid)
namespace Ver
def turnsE : List TypeId := [5, 37]
def AftE (w w' : World) (base : Nat) : Prop := Ref.Aft turnsE w w' base (fun _ => False) (fun _ => False)
structure Nb (w : World) (base gb : Nat) (b : List UInt8) : Prop where
 ge : base ≤ gb
 at_ : ∃ A c, w.heap[gb]? = some (.cells #[.slice A b.length c] 37) ∧ Own w base 5 A c b
theorem Nb.below {w w' : World} {base gb : Nat} {b : List UInt8} (h : Nb w base gb b) (hb : Below w.heap.size w w') : Nb w' base gb b := by
 obtain ⟨A, c, h1, h2⟩ := h.at_
 exact ⟨h.ge, A, c, (hb.block gb (Array.getElem?_eq_some_iff.1 h1).1).trans h1, h2.below hb⟩
theorem AftE.refl (w : World) (base : Nat) : AftE w w base := Ref.Aft.refl w base _
theorem AftE.trans {w w1 w' : World} {base : Nat} (h1 : AftE w w1 base) (h2 : AftE w1 w' base) : AftE w w' base := Ref.Aft.trans h1 h2
theorem AftE.of_below {w w' : World} {base : Nat} (hb : Below w.heap.size w w') : AftE w w' base := Ref.Aft.of_below hb _
theorem AftE.below {w w' : World} {base : Nat} (h : AftE w w' base) (hb : base ≤ w.heap.size) : Below base w w' := ⟨h.os, h.tape, h.output, h.size, fun k hk => h.block k (by omega) (.inl hk)⟩
theorem own_cellp {w : World} {base : Nat} {e : TypeId} {A : Option Addr} {c : Nat} {l : List UInt8} (h : Own w base e A c l) (p : Addr) (v : Value) (hp : blk A ≠ some p.block) : Own (w.setCell p v) base e A c l :=
 World.ownsRow.kept h (Sto.grownBy_setS w p v) (.inr (by rw [ownBlock_slice]; exact hp))
theorem Nb.put {w w1 w8 : World} {base gb c c' : Nat} {b x L : List UInt8} {A A' : Option Addr} (hge : base ≤ gb) (hbx : w.heap[gb]? = some (.cells #[.slice A b.length c] 37)) (ho : Own w base 5 A c b) (hb : Below w.heap.size w w1)
   (hg : w1.grownBy w8 (blk A)) (hL : L = b ++ x) (ho8 : Own w8 base 5 A' c' L) : Nb (w8.setCell ⟨gb, 0, none⟩ (.slice A' L.length c')) base gb (b ++ x) ∧ AftE w (w8.setCell ⟨gb, 0, none⟩ (.slice A' L.length c')) base ∧ w8.heap[gb]? = some (.cells #[.slice A b.length c] 37) := by
 subst hL
 have hgb : gb < w.heap.size := (Array.getElem?_eq_some_iff.1 hbx).1
 have htb : Sto.Tag w gb 37 := ⟨_, _, hbx⟩
 have hne : blk A ≠ some gb := fun e => (Sto.ownTag ho e).ne htb (by decide) rfl
 have e1 : w8.heap[gb]? = w.heap[gb]? := (hg.block gb (by have := hb.size; omega) (fun e => hne e.symm)).trans (hb.block gb hgb)
 have e8 : w8.heap[gb]? = some (.cells #[.slice A b.length c] 37) := e1.trans hbx
 refine ⟨⟨hge, A', c', box_set e8 _, own_cellp ho8 _ _ (fun e => (Sto.ownTag ho8 e).ne ⟨_, _, e8⟩ (by decide) rfl)⟩, ?_, e8⟩
 exact ⟨hg.os.trans hb.os, hg.tape.trans hb.tape, hg.output.trans hb.output, by have := hb.size; have := hg.size; simp; omega, fun k hk hn => by
   have n1 : k ≠ gb := fun e => by
     subst e
     rcases hn with hn | hn
     · omega
     · exact hn _ (by simp [turnsE]) htb
   have n2 : blk A ≠ some k := fun e => by
     rcases hn with hn | hn
     · have := (ho.blk_ge k e).1; omega
     · exact hn _ (by simp [turnsE]) (Sto.ownTag ho e)
   rw [box_set_other n1, hg.block k (by have := hb.size; omega) (fun e => n2 e.symm), hb.block k hk], fun _ _ h => h⟩
set_option maxHeartbeats 1000000 in
set_option maxRecDepth 100000 in
theorem numbers_in (base gb : Nat) (LA : Option Addr) (lc : Nat) (l : List Int) (b : List UInt8) (w : World) (h : Nb w base gb b) (hbase : base ≤ w.heap.size) (hL : ∀ W, AftE w W base → RdS Sto.I1 1 W W.heap.size LA l) (hl : l.length ≤ 100000) (hb : b.length ≤ 1000000000) (hn : ∀ n ∈ l, 0 ≤ n ∧ n ≤ 1099511627776) :
   Calls Tryz.prog 52 #[.slice LA l.length lc, .pointer (some ⟨gb, 0, none⟩)] w fun e w' => e = .returned (.tuple #[]) ∧ Nb w' base gb (b ++ l.flatMap numI) ∧ AftE w w' base := by
 have HNB := hid h
 have HL := hid hL
 have HNN := hid hn
 have HBS := hid hbase
 clear h hL hn hbase
 go_enter Tryz.func52, Tryz.ntmps52
 go_wp2_with fail
 go_loopw [7] (fun i wr => ∃ (k : Nat), k ≤ l.length ∧ i = .int .i64 (k : Int) ∧ Hid (Nb wr base gb (b ++ (l.take k).flatMap numI)) ∧ Hid (AftE w wr base) ∧ Hid ((b ++ (l.take k).flatMap numI).length ≤ b.length + 10 * k)) (fun i _ => l.length - (intOf i).toNat)
 case atStart => exact ⟨0, by omega, rfl, hid (by simpa using HNB.out), hid (AftE.refl _ _), hid (by simp)⟩
 case round =>
   obtain ⟨k, hk, rfl, HN, HA, HZ⟩ := hrel
   by_cases hlt : k < l.length
   · obtain ⟨q, off, hA, hq, hc⟩ := RdS.row (f := Sto.I1) (n := 1) (fun _ => rfl) (by omega) (HL.out wr HA.out) (by omega)
     have c0 := hc k hlt 0 _ rfl
     rw [Nat.add_zero, Nat.mul_one] at c0
     obtain ⟨n1, n2⟩ := HNN.out _ (List.getElem_mem hlt)
     have HTK : Hid (l.take (k + 1) = l.take k ++ [l[k]]) := hid (List.take_succ_eq_append_getElem hlt)
     obtain ⟨x, hx⟩ : ∃ x, x = l[k] := ⟨_, rfl⟩
     rw [← hx] at c0 n1 n2 HTK
     obtain ⟨A, c, hbx, hown⟩ := HN.out.at_
     obtain ⟨B', hB'⟩ : ∃ B', B' = b ++ (l.take k).flatMap numI := ⟨_, rfl⟩
     rw [← hB'] at hbx hown HZ
     have hw : IntKind.u64.wrap x = x := by rw [IntKind.wrap_u64]; omega
     subst hA
     have HBP := hid hB'
     clear hB'
     have HBX := hid hbx
     have HOW := hid hown
     clear hc hx hbx hown
     go_wp2_with fail
     obtain ⟨V, hV⟩ : ∃ V, wr.drew = V := ⟨_, rfl⟩
     have HBV : Hid (Below wr.heap.size wr V) := hid (by rw [← hV]; exact (Below.refl _ _).drew)
     have HBXV : Hid (V.heap[gb]? = some (.cells #[.slice A B'.length c] 37)) := hid ((HBV.out.block _ (Array.getElem?_eq_some_iff.1 HBX.out).1).trans HBX.out)
     have HSV : V.cell? ⟨gb, 0, none⟩ = some (.slice A B'.length c) := box_cell HBXV.out
     have HNL := hid (Cod.number_len (n := x.toNat) (by omega))
     have HNX : Hid (IntKind.u64.wrap x = ((x.toNat : Nat) : Int)) := hid (by omega)
     have hwn : x = ((x.toNat : Nat) : Int) := by omega
     obtain ⟨xn, hxn⟩ : ∃ xn, xn = x.toNat := ⟨_, rfl⟩
     rw [← hxn] at hwn HNL
     have hxl : xn < 18446744073709551616 := by omega
     have KN : Hid (∀ W, Calls Tryz.prog 53 #[.int .u64 x] W (GivesB W (numI x))) := hid (fun W => by
       unfold numI
       rw [← hxn, hwn]
       exact number_any xn hxl W)
     have HXN := hid hxn
     clear hwn hxn
     refine wp_region_E 5 (fun w' => w'.cell? ⟨gb, 0, none⟩ = some (.slice A B'.length c)) (by kernel_rfl) ?_
     rw [hV]
     clear hV
     refine wT (i := 0) (v := ?_) rfl (Or.inl ⟨by rfl, ?_⟩) HSV ?_
     rotate_left
     · (intro wy hSw; go_simp; try with_reducible rfl)
     try simp only [Act.put, List.setIfInBounds_toArray]
     refine wT (i := 1) (v := ?_) rfl (Or.inl ⟨by rfl, ?_⟩) HSV ?_
     rotate_left
     · (intro wy hSw; go_simp; try with_reducible rfl)
     try simp only [Act.put]
     refine wT (i := 2) (v := ?_) rfl (Or.inl ⟨by rfl, ?_⟩) HSV ?_
     rotate_left
     · (intro wy hSw; go_simp; try with_reducible rfl)
     simp only [Act.put, List.getElem_toArray, List.getElem_cons_succ, List.getElem_cons_zero, List.setIfInBounds_toArray, List.set_cons_succ, List.set_cons_zero]
     refine wpAnyE_one (i := 3) (by kernel_rfl) rfl (fun K hK => ?_)
     refine step_call1_dv (by rfl) (some 14) (by rfl) (.tmp 13) (by rfl) (.int .u64 x) (by first | rfl | (simp [Act.eval, hw]; done)) (enters_of Tryz.func53 (by kernel_rfl) rfl) _ (KN.out V) ?_
     rintro e w1 ⟨A1, c1, rfl, ho1, hb1⟩
     refine ⟨_, rfl, ?_⟩
     have hz1 := hb1.size
     have hS1 : w1.cell? ⟨gb, 0, none⟩ = some (.slice A B'.length c) := (hb1.cell (p := ⟨gb, 0, none⟩) (Array.getElem?_eq_some_iff.1 HBXV.out).1).trans HSV
     refine hK _ _ hS1 ?_
     simp only [Act.put, List.setIfInBounds_toArray, List.set_cons_succ, List.set_cons_zero]
     refine wpAnyE_one (i := 4) (by kernel_rfl) rfl (fun K hK => ?_)
     refine step_append_bd _ (by rfl) (some 15) (by rfl) (.tmp 11) (.tmp 14) bt (by rfl) base A c B' rfl ((HOW.out.below HBV.out).below hb1) w1.heap.size A1 _ c1 (numI x) rfl rfl ho1.rd (by have := HNL.out; have := HZ.out; unfold numI; rw [← HXN.out]; omega) (by have := HBS.out; have := HBV.out.size; have := HA.out.size; omega) ?_
     intro A' c' L' w8 hl8 ho8 hg8 hat8
     have HP := hid (Nb.put HN.out.ge HBX.out HOW.out (HBV.out.trans (hb1.mono HBV.out.size)) hg8 hl8 ho8)
     have hS8 : w8.cell? ⟨gb, 0, none⟩ = some (.slice A B'.length c) := box_cell HP.out.2.2
     have f8 : w8.frozen? ⟨gb, 0, none⟩ = false := box_frozen HP.out.2.2
     refine hK _ _ hS8 ?_
     clear hg8 hl8 ho8 hat8 hb1 ho1 HOW
     simp only [Act.put, List.setIfInBounds_toArray, List.set_cons_succ, List.set_cons_zero]
     refine wpAnyE_last (by kernel_rfl) (by kernel_rfl) rfl (fun K hK => ?_)
     go_simp
     refine hK _ _ ?_
     obtain ⟨W, hW⟩ : ∃ W, W = w8.setCell ⟨gb, 0, none⟩ (.slice A' L'.length c') := ⟨_, rfl⟩
     have HN2 : Hid (Nb W base gb (b ++ (l.take (k + 1)).flatMap numI)) := hid (by
       have h := HP.out.1
       rw [HBP.out, List.append_assoc] at h
       rw [hW, HTK.out, List.flatMap_append, List.flatMap_cons, List.flatMap_nil, List.append_nil]
       exact h)
     have HA2 : Hid (AftE w W base) := hid (HA.out.trans (by rw [hW]; exact HP.out.2.1))
     have HZ2 : Hid ((b ++ (l.take (k + 1)).flatMap numI).length ≤ b.length + 10 * (k + 1)) := hid (by
       have h1 := HZ.out
       have h2 := HNL.out
       rw [HBP.out] at h1
       rw [HTK.out, List.flatMap_append, List.flatMap_cons, List.flatMap_nil, List.append_nil, ← List.append_assoc, List.length_append]
       unfold numI at *
       rw [← HXN.out]
       omega)
     rw [← hW]
     clear hW HP hS8 f8 HBX HBXV HSV hS1 hz1 HN HA HZ
     go_wp2_with fail
     exact ⟨⟨k + 1, hlt, by simp, HN2, HA2, HZ2⟩, by simp only [intOf]; omega⟩
   · have hke : k = l.length := by omega
     subst hke
     have HNE : Hid (Nb wr base gb (b ++ l.flatMap numI)) := hid (by have := HN.out; rwa [List.take_length] at this)
     go_wp2_with fail
     go_end0
     exact ⟨rfl, HNE.out, HA.out⟩
end Ver
namespace Ver
def Ev.obj (e : Ev) : Obj := .cells #[.slice e.A e.add.length e.c, .slice e.DA e.drop.length e.dc, .int .i64 e.log, .int .i64 e.next] 27
structure Eb (w0 : World) (e : Ev) (gb : Nat) (b : List UInt8) (W : World) : Prop where
 box : W.heap[w0.heap.size]? = some e.obj
 nb : Nb W w0.heap.size gb b
 below : Below w0.heap.size w0 W
section
variable {w0 W W' : World} {e : Ev} {gb : Nat} {b b' : List UInt8}
theorem Eb.lt (h : Eb w0 e gb b W) : w0.heap.size < W.heap.size := (Array.getElem?_eq_some_iff.1 h.box).1
theorem Eb.aft (h : Eb w0 e gb b W) (hn : Nb W' w0.heap.size gb b') (ha : AftE W W' w0.heap.size) : Eb w0 e gb b' W' :=
 ⟨(ha.block _ h.lt (.inr (fun T hT t => by
     obtain ⟨cs, fr, hh⟩ := t
     have h2 := h.box
     rw [hh] at h2
     injection h2 with h2
     injection h2 with _ h3 _
     rw [h3] at hT
     revert hT
     decide))).trans h.box, hn, h.below.trans (ha.below (Nat.le_of_lt h.lt))⟩
theorem Eb.low (h : Eb w0 e gb b W) (hb : Below W.heap.size W W') : Eb w0 e gb b W' := ⟨(hb.block _ h.lt).trans h.box, h.nb.below hb, h.below.trans (hb.mono (Nat.le_of_lt h.lt))⟩
theorem Eb.alloc (h : Eb w0 e gb b W) (o : Obj) : Eb w0 e gb b (W.alloc o) := h.low ((Below.refl _ _).alloc (Nat.le_refl _) o)
theorem Eb.c (h : Eb w0 e gb b W) : W.cell? ⟨w0.heap.size, 0, none⟩ = some (.slice e.A e.add.length e.c) ∧ W.cell? ⟨w0.heap.size, 1, none⟩ = some (.slice e.DA e.drop.length e.dc) ∧ W.cell? ⟨w0.heap.size, 2, none⟩ = some (.int .i64 e.log) ∧ W.cell? ⟨w0.heap.size, 3, none⟩ = some (.int .i64 e.next) := by
 have h1 := h.box
 refine ⟨?_, ?_, ?_, ?_⟩ <;> (rw [cell_of_row _ _ _ _ _ (0, 0) h1]; rfl)
theorem rd_ints {q : Nat} {l : List Int} {T : TypeId} (h : W.heap[q]? = some (.cells (l.map (Value.int .i64)).toArray T)) : RdS Sto.I1 1 W W.heap.size (some ⟨q, 0, none⟩) l := by
 refine RdS.of (f := Sto.I1) (n := 1) (l := l) (fun _ => rfl) _ 0 (Array.getElem?_eq_some_iff.1 h).1 (fun k hk j u hj => ?_)
 have hj0 : j = 0 := by
   rcases j with _ | j
   · rfl
   · simp [Sto.I1] at hj
 subst hj0
 rw [cell_of_row _ q _ _ _ (0, 0) h]
 simp [Sto.I1] at hj
 simp [hk, hj]
theorem Eb.num (h : Eb w0 e gb b W) (LA : Option Addr) (lc : Nat) (l : List Int) (hL : ∀ W', AftE W W' w0.heap.size → RdS Sto.I1 1 W' W'.heap.size LA l) (hl : l.length ≤ 100000) (hb : b.length ≤ 1000000000) (hn : ∀ n ∈ l, 0 ≤ n ∧ n ≤ 1099511627776) :
   Calls Tryz.prog 52 #[.slice LA l.length lc, .pointer (some ⟨gb, 0, none⟩)] W fun r W' => r = .returned (.tuple #[]) ∧ Eb w0 e gb (b ++ l.flatMap numI) W' ∧ AftE W W' w0.heap.size :=
 (numbers_in w0.heap.size gb LA lc l b W h.nb (Nat.le_of_lt h.lt) hL hl hb hn).mono fun _ _ ⟨h1, h2, h3⟩ => ⟨h1, h.aft h2 h3, h3⟩
theorem Eb.lit (h : Eb w0 e gb b W) {N : Nat} (hN : W.heap.size = N) (l : List Int) {cs : Array Value} (hcs : cs = (l.map (Value.int .i64)).toArray) (hl : l.length ≤ 100000) (hb : b.length ≤ 1000000000) (hn : ∀ n ∈ l, 0 ≤ n ∧ n ≤ 1099511627776) :
   Calls Tryz.prog 52 #[.slice (some ⟨N, 0, none⟩) l.length l.length, .pointer (some ⟨gb, 0, none⟩)] (W.alloc (.cells cs 3)) fun r W' => r = .returned (.tuple #[]) ∧ Eb w0 e gb (b ++ l.flatMap numI) W' ∧ AftE W W' w0.heap.size := by
 subst hN
 have hx := heap_alloc_new W (.cells cs 3)
 refine ((h.alloc _).num _ _ l (fun W' ha => rd_ints (q := W.heap.size) (T := 3) ?_) hl hb hn).mono fun _ _ ⟨h1, h2, h3⟩ => ⟨h1, h2, (AftE.of_below ((Below.refl _ _).alloc (Nat.le_refl _) _)).trans h3⟩
 rw [← hcs]
 refine (ha.block _ (by simp) (.inr (fun T hT t => ?_))).trans hx
 obtain ⟨c2, fr, hh⟩ := t
 rw [hx] at hh
 injection hh with hh
 injection hh with _ h3 _
 rw [← h3] at hT
 revert hT
 decide
end
theorem text_len2 {l : List UInt8} (h : l.length < 18446744073709551616) : (Cod.text l).length ≤ 10 + l.length := by
 have := Cod.number_len h
 unfold Cod.text
 rw [List.length_append]
 omega
theorem flat_len : ∀ (l : List Int), (∀ n ∈ l, (numI n).length ≤ 10) → (l.flatMap numI).length ≤ 10 * l.length
 | [], _ => by simp
 | n :: l, h => by
   have h1 := flat_len l (fun m hm => h m (by simp [hm]))
   have h2 := h n (by simp)
   rw [List.flatMap_cons, List.length_append, List.length_cons]
   omega
theorem of_mem {l : List Vf} (h : ∀ f ∈ l.map Vf.fi, okF f = true) {k : Nat} (hk : k < l.length) : okF (l[k]).fi = true := h _ (List.mem_map.2 ⟨_, List.getElem_mem hk, rfl⟩)
theorem aft_file {W W' : World} {base g : Nat} {cs : Array Value} (ha : AftE W W' base) (h : W.heap[g]? = some (.cells cs 43)) : W'.heap[g]? = some (.cells cs 43) :=
 (ha.block _ (Array.getElem?_eq_some_iff.1 h).1 (.inr (fun T hT t => by
   obtain ⟨c2, fr, hh⟩ := t
   rw [h] at hh
   injection hh with hh
   injection hh with _ h3 _
   rw [← h3] at hT
   revert hT
   decide))).trans h
def SaysEnc (w : World) (e : Ed) (r : Ending) (w' : World) : Prop := Below w.heap.size w w' ∧ ((okE e = false ∧ r = .returned (.tuple #[.slice none 0 0, .int .i64 1])) ∨ (okE e = true ∧ ∃ A c, r = .returned (.tuple #[.slice A (enc e).length c, .int .i64 0]) ∧ Own w' w.heap.size 5 A c (enc e)))
set_option maxHeartbeats 2000000 in
set_option maxRecDepth 100000 in
theorem encode_any (e : Ev) (w : World) (h : EvOk w w.heap.size e) (hl : e.add.length ≤ 1000000) (hd : e.drop.length ≤ 1000000) :
   Calls Tryz.prog 16 #[e.val] w (SaysEnc w e.ed) := by
 have hba : Below w.heap.size w (w.alloc e.obj) := (Below.refl _ _).alloc (Nat.le_refl _) _
 have KR := hid (rightEdit_any e (w.alloc e.obj) (h.keep hba) hl hd)
 have HB0 := hid hba
 have HO := hid h
 have HX0 := hid (heap_alloc_new w e.obj)
 clear h hba
 obtain ⟨A, c, add, DA, dc, drop, log, next⟩ := e
 simp only [Ev.val, Ev.obj] at *
 obtain ⟨ok, hok⟩ : ∃ ok, ok = okE (Ev.ed ⟨A, c, add, DA, dc, drop, log, next⟩) := ⟨_, rfl⟩
 rw [← hok] at KR
 have HOK := hid hok
 clear hok
 go_enter Tryz.func16, Tryz.ntmps16
 go_wp2_with fail
 refine KR.out.mono ?_
 rintro r w1 ⟨rfl, hb1⟩
 have HB1 : Hid (Below w.heap.size w w1) := hid (HB0.out.trans (hb1.mono HB0.out.size))
 have HX1 : Hid (w1.heap[w.heap.size]? = some (Ev.obj ⟨A, c, add, DA, dc, drop, log, next⟩)) := hid ((hb1.block _ (by simp)).trans HX0.out)
 rcases ok with _ | _
 · go_wp2_with fail
   refine bodyPost_ret (results_tmp2 rfl _ _ _) rfl ?_
   exact ⟨HB1.out, .inl ⟨HOK.out.symm, rfl⟩⟩
 obtain ⟨⟨g1, g2, g3, g4, g5, g6⟩, g7, g8⟩ := okE_bd HOK.out.symm
 simp only [Ev.ed, List.length_map] at g1 g2 g3 g4 g5 g6 g8
 have HG7 := hid g7
 have HG8 := hid g8
 have HBS : Hid (Below w1.heap.size w1 (w1.alloc (.cells #[.slice none 0 0] 37))) := hid ((Below.refl _ _).alloc (Nat.le_refl _) _)
 have HE0 : Hid (Eb w ⟨A, c, add, DA, dc, drop, log, next⟩ w1.heap.size [] (w1.alloc (.cells #[.slice none 0 0] 37))) := hid ⟨(HBS.out.block _ (Array.getElem?_eq_some_iff.1 HX1.out).1).trans HX1.out, ⟨HB1.out.size, none, 0, heap_alloc_new w1 _, Own.nil _ _ _⟩, HB1.out.trans (HBS.out.mono HB1.out.size)⟩
 obtain ⟨gb, hgb⟩ : ∃ gb, gb = w1.heap.size := ⟨_, rfl⟩
 have K0 := hid (HE0.out.lit (N := w1.heap.size + 1) (by simp) [(add.length : Int)] rfl (by simp) (by simp) (by simp; omega))
 obtain ⟨d0, d1, d2, d3⟩ := HE0.out.c
 simp only at d0 d1 d2 d3
 clear hb1 g7 g8 hl hd
 go_wp2_with fail
 refine K0.out.mono ?_
 rintro r w2 ⟨rfl, hE2, -⟩
 rw [← hgb] at hE2 ⊢
 have HE2 := hid hE2
 obtain ⟨d0, d1, d2, d3⟩ := hE2.c
 simp only at d0 d1 d2 d3
 have HN0 : Hid (([] ++ List.flatMap numI [(add.length : Int)] : List UInt8) = numI add.length) := hid (by simp)
 rw [HN0.out] at HE2
 have HLN : Hid (∀ n : Int, (numI n).length ≤ 10 ∨ 18446744073709551616 ≤ n.toNat) := hid (fun n => by
   by_cases hn : n.toNat < 18446744073709551616
   · exact .inl (Cod.number_len hn)
   · exact .inr (by omega))
 have HHL : Hid ((numI add.length).length ≤ 10) := hid (by rcases HLN.out (add.length : Int) with h | h <;> omega)
 clear hgb hE2 HE0 HX1 HX0 HB0 HBS K0 KR
 go_wp2_with fail
 go_loopw [21] (fun i wr => ∃ (k : Nat), k ≤ add.length ∧ i = .int .i64 (k : Int) ∧ Hid (Eb w ⟨A, c, add, DA, dc, drop, log, next⟩ gb (numI add.length ++ ((add.take k).map Vf.fi).flatMap encF) wr) ∧ Hid ((numI add.length ++ ((add.take k).map Vf.fi).flatMap encF).length ≤ 10 + 2000 * k)) (fun i _ => add.length - (intOf i).toNat)
 case atStart => exact ⟨0, by omega, rfl, hid (by simpa using HE2.out), hid (by simpa using HHL.out)⟩
 case round =>
   obtain ⟨k, hk, rfl, HE, HZ⟩ := hrel
   by_cases hlt : k < add.length
   · obtain ⟨q, off, hA, hq, hc, hok⟩ := ((HO.out.add).below HE.out.below (Nat.le_refl _)).cell hlt
     have hof := of_mem (l := add) HG7.out hlt
     have HTK : Hid (add.take (k + 1) = add.take k ++ [add[k]]) := hid (List.take_succ_eq_append_getElem hlt)
     have hok0 := HO.out.add.ok _ (List.getElem_mem hlt)
     obtain ⟨v, hv⟩ : ∃ v, v = add[k] := ⟨_, rfl⟩
     rw [← hv] at hc hok hof HTK hok0
     obtain ⟨nu, lv, FA, fc, fi, LA, lc, la, lo, hi⟩ := v
     obtain ⟨o1, o2, o3, o4, o5, o6, o7, o8, o9, o10, o11⟩ := okF_bd hof
     simp only [Vf.fi] at o1 o2 o3 o4 o5 o6 o7 o8 o9 o10 o11
     have c0 := hc 0 _ rfl
     have c1 := hc 1 _ rfl
     have c2 := hc 2 _ rfl
     have c3 := hc 3 _ rfl
     have c4 := hc 4 _ rfl
     have c5 := hc 5 _ rfl
     rw [Nat.add_zero] at c0
     simp only at c0 c1 c2 c3 c4 c5
     subst hA
     have HFI : Hid (RdB w w.heap.size FA fi) := hid hok0.f
     have HLA : Hid (RdB w w.heap.size LA la) := hid hok0.l
     have HTLfi : Hid ((Cod.text fi).length ≤ 10 + fi.length) := hid (text_len2 (by omega))
     have HTLla : Hid ((Cod.text la).length ≤ 10 + la.length) := hid (text_len2 (by omega))
     have HNLn : Hid ((numI nu).length ≤ 10 ∧ (numI lv).length ≤ 10 ∧ (numI lo).length ≤ 10 ∧ (numI hi).length ≤ 10) := hid ⟨by rcases HLN.out nu with h | h <;> omega, by rcases HLN.out lv with h | h <;> omega, by rcases HLN.out lo with h | h <;> omega, by rcases HLN.out hi with h | h <;> omega⟩
     obtain ⟨B0, hB0⟩ : ∃ B, B = numI add.length ++ ((add.take k).map Vf.fi).flatMap encF := ⟨_, rfl⟩
     rw [← hB0] at HE HZ
     have HQ0 := hid hB0
     obtain ⟨gf, hgf⟩ : ∃ gf, gf = wr.heap.size := ⟨_, rfl⟩
     have K1 := hid ((HE.out.alloc (.cells #[.int .i64 nu, .int .i64 lv, .slice FA fi.length fc, .slice LA la.length lc, .int .i64 lo, .int .i64 hi] 43)).lit (N := wr.heap.size + 1) (by simp) [nu, lv] rfl (by simp) (by have := HZ.out; omega) (by simp; omega))
     have HFA : Hid ((wr.alloc (.cells #[.int .i64 nu, .int .i64 lv, .slice FA fi.length fc, .slice LA la.length lc, .int .i64 lo, .int .i64 hi] 43)).heap[gf]? = some (.cells #[.int .i64 nu, .int .i64 lv, .slice FA fi.length fc, .slice LA la.length lc, .int .i64 lo, .int .i64 hi] 43)) := hid (by rw [hgf]; exact heap_alloc_new wr _)
     have e0 := cell_of_row _ gf 0 _ _ (0, 0) HFA.out
     have e1 := cell_of_row _ gf 1 _ _ (0, 0) HFA.out
     simp only [List.getElem?_toArray, List.getElem?_cons_zero, List.getElem?_cons_succ] at e0 e1
     rw [hgf] at e0 e1
     have HGF := hid hgf
     clear hc hok hof hv hok0 hB0 hgf
     go_wp2_with fail
     refine K1.out.mono ?_
     rintro r wA ⟨rfl, hE1, hA1⟩
     rw [← HGF.out]
     have HF1 : Hid (wA.heap[gf]? = some (.cells #[.int .i64 nu, .int .i64 lv, .slice FA fi.length fc, .slice LA la.length lc, .int .i64 lo, .int .i64 hi] 43)) := hid (aft_file hA1 HFA.out)
     obtain ⟨BA, hBA⟩ : ∃ B, B = B0 ++ List.flatMap numI [nu, lv] := ⟨_, rfl⟩
     rw [← hBA] at hE1
     have HE1 := hid hE1
     have HLBA : Hid (BA.length ≤ B0.length + 20) := hid (by have := HNLn.out; rw [hBA]; simp; omega)
     have HQA := hid hBA
     clear hE1 hA1 hBA HFA e0 e1 c0 c1 c2 c3 c4 c5 K1 HE HGF
     have hZ0 := HZ.out
     go_wp2_with fail
     obtain ⟨A2, c2, hbx2, how2⟩ := HE1.out.nb.at_
     obtain ⟨V2, hV2⟩ : ∃ V, wA.drew = V := ⟨_, rfl⟩
     have HBV2 : Hid (Below wA.heap.size wA V2) := hid (by rw [← hV2]; exact (Below.refl _ _).drew)
     have HBX2 := hid hbx2
     have HOW2 := hid how2
     have HXV2 : Hid (V2.heap[gb]? = some (.cells #[.slice A2 BA.length c2] 37)) := hid ((HBV2.out.block _ (Array.getElem?_eq_some_iff.1 hbx2).1).trans hbx2)
     have HFV2 : Hid (V2.heap[gf]? = some (.cells #[.int .i64 nu, .int .i64 lv, .slice FA fi.length fc, .slice LA la.length lc, .int .i64 lo, .int .i64 hi] 43)) := hid ((HBV2.out.block _ (Array.getElem?_eq_some_iff.1 HF1.out).1).trans HF1.out)
     have HSV2 : V2.cell? ⟨gb, 0, none⟩ = some (.slice A2 BA.length c2) ∧ V2.cell? ⟨gf, 2, none⟩ = some (.slice FA fi.length fc) := ⟨box_cell HXV2.out, by rw [cell_of_row _ _ _ _ _ (0, 0) HFV2.out]; rfl⟩
     have KT2 := hid (text_any FA fc fi V2 ((HFI.out.below (HE1.out.below.trans (HBV2.out.mono HE1.out.below.size)) (Nat.le_refl _)).more (Nat.le_trans HE1.out.below.size HBV2.out.size)) (by omega))
     clear hbx2 how2
     refine wp_region_E 5 (fun w' => w'.cell? ⟨gb, 0, none⟩ = some (.slice A2 BA.length c2) ∧ w'.cell? ⟨gf, 2, none⟩ = some (.slice FA fi.length fc)) (by kernel_rfl) ?_
     rw [hV2]
     clear hV2
     refine wT (i := 0) (v := ?_) rfl (Or.inl ⟨by rfl, ?_⟩) HSV2 ?_
     rotate_left
     · (intro wy hSw; obtain ⟨hs1, hs2⟩ := hSw; go_simp; try with_reducible rfl)
     try simp only [Act.put, List.setIfInBounds_toArray]
     refine wT (i := 1) (v := ?_) rfl (Or.inl ⟨by rfl, ?_⟩) HSV2 ?_
     rotate_left
     · (intro wy hSw; obtain ⟨hs1, hs2⟩ := hSw; go_simp; try with_reducible rfl)
     try simp only [Act.put]
     refine wT (i := 2) (v := ?_) rfl (Or.inl ⟨by rfl, ?_⟩) HSV2 ?_
     rotate_left
     · (intro wy hSw; obtain ⟨hs1, hs2⟩ := hSw; go_simp; try with_reducible rfl)
     simp only [Act.put, List.getElem_toArray, List.getElem_cons_succ, List.getElem_cons_zero, List.setIfInBounds_toArray, List.set_cons_succ, List.set_cons_zero]
     refine wpAnyE_one (i := 3) (by kernel_rfl) rfl (fun K hK => ?_)
     refine step_call1_dv (by rfl) (some 35) (by rfl) (.tmp 34) (by rfl) (.slice FA fi.length fc) rfl (enters_of Tryz.func54 (by kernel_rfl) rfl) _ KT2.out ?_
     rintro e v2 ⟨T2, t2, rfl, ho2, hb2⟩
     refine ⟨_, rfl, ?_⟩
     have hz2 := hb2.size
     have hy2 : v2.cell? ⟨gb, 0, none⟩ = some (.slice A2 BA.length c2) ∧ v2.cell? ⟨gf, 2, none⟩ = some (.slice FA fi.length fc) := ⟨(hb2.cell (p := ⟨gb, 0, none⟩) (Array.getElem?_eq_some_iff.1 HXV2.out).1).trans HSV2.1, (hb2.cell (p := ⟨gf, 2, none⟩) (Array.getElem?_eq_some_iff.1 HFV2.out).1).trans HSV2.2⟩
     refine hK _ _ hy2 ?_
     simp only [Act.put, List.setIfInBounds_toArray, List.set_cons_succ, List.set_cons_zero]
     refine wpAnyE_one (i := 4) (by kernel_rfl) rfl (fun K hK => ?_)
     refine step_append_bd _ (by rfl) (some 36) (by rfl) (.tmp 32) (.tmp 35) bt (by rfl) w.heap.size A2 c2 BA rfl ((HOW2.out.below HBV2.out).below hb2) v2.heap.size T2 _ t2 (Cod.text fi) rfl rfl ho2.rd (by have := HTLfi.out; have := HLBA.out; have := HLBA.out; omega) (by have := HBV2.out.size; have := HE1.out.below.size; omega) ?_
     intro A' c' L' w8 hl8 ho8 hg8 hat8
     have HP := hid (Nb.put HE1.out.nb.ge HBX2.out HOW2.out (HBV2.out.trans (hb2.mono HBV2.out.size)) hg8 hl8 ho8)
     have hgf8 : w8.heap[gf]? = v2.heap[gf]? := hg8.block gf (by have := (Array.getElem?_eq_some_iff.1 HFV2.out).1; omega) (fun e => (Sto.ownTag HOW2.out e.symm).ne ⟨_, _, HF1.out⟩ (by decide) rfl)
     have hS8 : w8.cell? ⟨gb, 0, none⟩ = some (.slice A2 BA.length c2) ∧ w8.cell? ⟨gf, 2, none⟩ = some (.slice FA fi.length fc) := ⟨box_cell HP.out.2.2, by rw [cell_of_row _ _ _ _ _ (0, 0) (hgf8.trans ((hb2.block _ (Array.getElem?_eq_some_iff.1 HFV2.out).1).trans HFV2.out))]; rfl⟩
     have h8c := hS8.1
     have f8 : w8.frozen? ⟨gb, 0, none⟩ = false := box_frozen HP.out.2.2
     refine hK _ _ hS8 ?_
     clear hg8 hl8 ho8 hat8 hb2 ho2 hgf8 hS8
     simp only [Act.put, List.setIfInBounds_toArray, List.set_cons_succ, List.set_cons_zero]
     refine wpAnyE_last (by kernel_rfl) (by kernel_rfl) rfl (fun K hK => ?_)
     go_simp
     refine hK _ _ ?_
     obtain ⟨wB, hW⟩ : ∃ W, W = w8.setCell ⟨gb, 0, none⟩ (.slice A' L'.length c') := ⟨_, rfl⟩
     rw [← hW] at HP
     have HE2 : Hid (Eb w ⟨some ⟨q, off, none⟩, c, add, DA, dc, drop, log, next⟩ gb (BA ++ Cod.text fi) wB) := hid (HE1.out.aft HP.out.1 HP.out.2.1)
     have HF2 : Hid (wB.heap[gf]? = some (.cells #[.int .i64 nu, .int .i64 lv, .slice FA fi.length fc, .slice LA la.length lc, .int .i64 lo, .int .i64 hi] 43)) := hid (aft_file HP.out.2.1 HF1.out)
     obtain ⟨B, hB⟩ : ∃ Y, Y = BA ++ Cod.text fi := ⟨_, rfl⟩
     rw [← hB] at HE2
     have HLB : Hid (B.length ≤ BA.length + (10 + fi.length)) := hid (by have := HTLfi.out; rw [hB, List.length_append]; omega)
     have HQB := hid hB
     rw [← hW]
     clear hW hB HP h8c f8 HSV2 HXV2 HFV2 HBX2 HOW2 HBV2 hy2 hz2 KT2 HF1
     go_wp2_with fail
     obtain ⟨A3, c3, hbx3, how3⟩ := HE2.out.nb.at_
     obtain ⟨V3, hV3⟩ : ∃ V, wB.drew = V := ⟨_, rfl⟩
     have HBV3 : Hid (Below wB.heap.size wB V3) := hid (by rw [← hV3]; exact (Below.refl _ _).drew)
     have HBX3 := hid hbx3
     have HOW3 := hid how3
     have HXV3 : Hid (V3.heap[gb]? = some (.cells #[.slice A3 B.length c3] 37)) := hid ((HBV3.out.block _ (Array.getElem?_eq_some_iff.1 hbx3).1).trans hbx3)
     have HFV3 : Hid (V3.heap[gf]? = some (.cells #[.int .i64 nu, .int .i64 lv, .slice FA fi.length fc, .slice LA la.length lc, .int .i64 lo, .int .i64 hi] 43)) := hid ((HBV3.out.block _ (Array.getElem?_eq_some_iff.1 HF2.out).1).trans HF2.out)
     have HSV3 : V3.cell? ⟨gb, 0, none⟩ = some (.slice A3 B.length c3) ∧ V3.cell? ⟨gf, 3, none⟩ = some (.slice LA la.length lc) := ⟨box_cell HXV3.out, by rw [cell_of_row _ _ _ _ _ (0, 0) HFV3.out]; rfl⟩
     have KT3 := hid (text_any LA lc la V3 ((HLA.out.below (HE2.out.below.trans (HBV3.out.mono HE2.out.below.size)) (Nat.le_refl _)).more (Nat.le_trans HE2.out.below.size HBV3.out.size)) (by omega))
     clear hbx3 how3
     refine wp_region_E 5 (fun w' => w'.cell? ⟨gb, 0, none⟩ = some (.slice A3 B.length c3) ∧ w'.cell? ⟨gf, 3, none⟩ = some (.slice LA la.length lc)) (by kernel_rfl) ?_
     rw [hV3]
     clear hV3
     refine wT (i := 0) (v := ?_) rfl (Or.inl ⟨by rfl, ?_⟩) HSV3 ?_
     rotate_left
     · (intro wy hSw; obtain ⟨hs1, hs2⟩ := hSw; go_simp; try with_reducible rfl)
     try simp only [Act.put, List.setIfInBounds_toArray]
     refine wT (i := 1) (v := ?_) rfl (Or.inl ⟨by rfl, ?_⟩) HSV3 ?_
     rotate_left
     · (intro wy hSw; obtain ⟨hs1, hs2⟩ := hSw; go_simp; try with_reducible rfl)
     try simp only [Act.put]
     refine wT (i := 2) (v := ?_) rfl (Or.inl ⟨by rfl, ?_⟩) HSV3 ?_
     rotate_left
     · (intro wy hSw; obtain ⟨hs1, hs2⟩ := hSw; go_simp; try with_reducible rfl)
     simp only [Act.put, List.getElem_toArray, List.getElem_cons_succ, List.getElem_cons_zero, List.setIfInBounds_toArray, List.set_cons_succ, List.set_cons_zero]
     refine wpAnyE_one (i := 3) (by kernel_rfl) rfl (fun K hK => ?_)
     refine step_call1_dv (by rfl) (some 40) (by rfl) (.tmp 39) (by rfl) (.slice LA la.length lc) rfl (enters_of Tryz.func54 (by kernel_rfl) rfl) _ KT3.out ?_
     rintro e v3 ⟨T3, t3, rfl, ho3, hb3⟩
     refine ⟨_, rfl, ?_⟩
     have hz3 := hb3.size
     have hy3 : v3.cell? ⟨gb, 0, none⟩ = some (.slice A3 B.length c3) ∧ v3.cell? ⟨gf, 3, none⟩ = some (.slice LA la.length lc) := ⟨(hb3.cell (p := ⟨gb, 0, none⟩) (Array.getElem?_eq_some_iff.1 HXV3.out).1).trans HSV3.1, (hb3.cell (p := ⟨gf, 3, none⟩) (Array.getElem?_eq_some_iff.1 HFV3.out).1).trans HSV3.2⟩
     refine hK _ _ hy3 ?_
     simp only [Act.put, List.setIfInBounds_toArray, List.set_cons_succ, List.set_cons_zero]
     refine wpAnyE_one (i := 4) (by kernel_rfl) rfl (fun K hK => ?_)
     refine step_append_bd _ (by rfl) (some 41) (by rfl) (.tmp 37) (.tmp 40) bt (by rfl) w.heap.size A3 c3 B rfl ((HOW3.out.below HBV3.out).below hb3) v3.heap.size T3 _ t3 (Cod.text la) rfl rfl ho3.rd (by have := HTLla.out; have := HLB.out; have := HLBA.out; omega) (by have := HBV3.out.size; have := HE2.out.below.size; omega) ?_
     intro A' c' L' w8 hl8 ho8 hg8 hat8
     have HP := hid (Nb.put HE2.out.nb.ge HBX3.out HOW3.out (HBV3.out.trans (hb3.mono HBV3.out.size)) hg8 hl8 ho8)
     have hgf8 : w8.heap[gf]? = v3.heap[gf]? := hg8.block gf (by have := (Array.getElem?_eq_some_iff.1 HFV3.out).1; omega) (fun e => (Sto.ownTag HOW3.out e.symm).ne ⟨_, _, HF2.out⟩ (by decide) rfl)
     have hS8 : w8.cell? ⟨gb, 0, none⟩ = some (.slice A3 B.length c3) ∧ w8.cell? ⟨gf, 3, none⟩ = some (.slice LA la.length lc) := ⟨box_cell HP.out.2.2, by rw [cell_of_row _ _ _ _ _ (0, 0) (hgf8.trans ((hb3.block _ (Array.getElem?_eq_some_iff.1 HFV3.out).1).trans HFV3.out))]; rfl⟩
     have h8c := hS8.1
     have f8 : w8.frozen? ⟨gb, 0, none⟩ = false := box_frozen HP.out.2.2
     refine hK _ _ hS8 ?_
     clear hg8 hl8 ho8 hat8 hb3 ho3 hgf8 hS8
     simp only [Act.put, List.setIfInBounds_toArray, List.set_cons_succ, List.set_cons_zero]
     refine wpAnyE_last (by kernel_rfl) (by kernel_rfl) rfl (fun K hK => ?_)
     go_simp
     refine hK _ _ ?_
     obtain ⟨wC, hW⟩ : ∃ W, W = w8.setCell ⟨gb, 0, none⟩ (.slice A' L'.length c') := ⟨_, rfl⟩
     rw [← hW] at HP
     have HE3 : Hid (Eb w ⟨some ⟨q, off, none⟩, c, add, DA, dc, drop, log, next⟩ gb (B ++ Cod.text la) wC) := hid (HE2.out.aft HP.out.1 HP.out.2.1)
     have HF3 : Hid (wC.heap[gf]? = some (.cells #[.int .i64 nu, .int .i64 lv, .slice FA fi.length fc, .slice LA la.length lc, .int .i64 lo, .int .i64 hi] 43)) := hid (aft_file HP.out.2.1 HF2.out)
     obtain ⟨C, hC⟩ : ∃ Y, Y = B ++ Cod.text la := ⟨_, rfl⟩
     rw [← hC] at HE3
     have HLC : Hid (C.length ≤ B.length + (10 + la.length)) := hid (by have := HTLla.out; rw [hC, List.length_append]; omega)
     have HQC := hid hC
     rw [← hW]
     clear hW hC HP h8c f8 HSV3 HXV3 HFV3 HBX3 HOW3 HBV3 hy3 hz3 KT3 HF2
     have K4 := hid (HE3.out.lit (N := wC.heap.size) rfl [lo, hi] rfl (by simp) (by have := HLC.out; have := HLB.out; have := HLBA.out; omega) (by simp; omega))
     have e4 := cell_of_row _ gf 4 _ _ (0, 0) HF3.out
     have e5 := cell_of_row _ gf 5 _ _ (0, 0) HF3.out
     simp only [List.getElem?_toArray, List.getElem?_cons_zero, List.getElem?_cons_succ] at e4 e5
     go_wp2_with fail
     refine K4.out.mono ?_
     rintro r wD ⟨rfl, hE4, -⟩
     have HEN : Hid (Eb w ⟨some ⟨q, off, none⟩, c, add, DA, dc, drop, log, next⟩ gb (numI add.length ++ ((add.take (k + 1)).map Vf.fi).flatMap encF) wD) := hid (by
       rw [HQC.out, HQB.out, HQA.out, HQ0.out] at hE4
       rw [HTK.out, List.map_append, List.flatMap_append]
       simp only [List.map_cons, List.map_nil, List.flatMap_cons, List.flatMap_nil, List.append_nil, encF, Vf.fi, List.append_assoc] at hE4 ⊢
       exact hE4)
     have HZN : Hid ((numI add.length ++ ((add.take (k + 1)).map Vf.fi).flatMap encF).length ≤ 10 + 2000 * (k + 1)) := hid (by
       have q1 := HLBA.out
       have q2 := HLB.out
       have q3 := HLC.out
       have q4 := HNLn.out
       rw [HTK.out, List.map_append, List.flatMap_append, ← List.append_assoc, ← HQ0.out, List.length_append]
       have q5 : (List.flatMap encF (List.map Vf.fi [⟨nu, lv, FA, fc, fi, LA, lc, la, lo, hi⟩])).length ≤ 1200 := by
         have := HTLfi.out
         have := HTLla.out
         simp only [List.map_cons, List.map_nil, List.flatMap_cons, List.flatMap_nil, List.append_nil, encF, Vf.fi, List.length_append]
         omega
       omega)
     clear hE4 K4 e4 e5 HF3 HE3
     go_wp2_with fail
     exact ⟨⟨k + 1, hlt, by simp, HEN, HZN⟩, by simp only [intOf]; omega⟩
   · have hke : k = add.length := by omega
     subst hke
     obtain ⟨B', hB'⟩ : ∃ B', B' = numI add.length ++ (add.map Vf.fi).flatMap encF := ⟨_, rfl⟩
     have HEX : Hid (Eb w ⟨A, c, add, DA, dc, drop, log, next⟩ gb B' wr) := hid (by have := HE.out; rw [List.take_length, ← hB'] at this; exact this)
     have HBL : Hid (B'.length ≤ 200000) := hid (by have := HZ.out; rw [List.take_length, ← hB'] at this; omega)
     have HBP := hid hB'
     have K1 := hid (HEX.out.lit (N := wr.heap.size) rfl [(drop.length : Int)] rfl (by simp) (by have := HBL.out; omega) (by simp; omega))
     obtain ⟨d0, d1, d2, d3⟩ := HEX.out.c
     simp only at d0 d1 d2 d3
     clear hB' HE HZ
     go_wp2_with fail
     refine K1.out.mono ?_
     rintro r w3 ⟨rfl, hE3, -⟩
     obtain ⟨B3, hB3⟩ : ∃ B, B = B' ++ List.flatMap numI [(drop.length : Int)] := ⟨_, rfl⟩
     rw [← hB3] at hE3
     have HL3 : Hid (B3.length ≤ 200010) := hid (by
       have h1 := HBL.out
       have h2 : (numI drop.length).length ≤ 10 := by rcases HLN.out (drop.length : Int) with h | h <;> omega
       rw [hB3]; simp; omega)
     have HQ3 := hid hB3
     have HE3 := hid hE3
     have K2 := hid (hE3.num DA dc drop (fun W' ha => (HO.out.drop.below (hE3.below.trans (ha.below hE3.below.size)) (Nat.le_refl _)).more (Nat.le_trans hE3.below.size ha.size)) (by omega) (by have := HL3.out; omega) (fun n hn => by
       have h1 : 1 ≤ n ∧ n ≤ 999999 := of_decide_eq_true (HG8.out n hn)
       omega))
     obtain ⟨d0, d1, d2, d3⟩ := hE3.c
     simp only at d0 d1 d2 d3
     clear hE3 hB3 K1 HEX
     go_wp2_with fail
     refine K2.out.mono ?_
     rintro r w4 ⟨rfl, hE4, -⟩
     obtain ⟨B4, hB4⟩ : ∃ B, B = B3 ++ List.flatMap numI drop := ⟨_, rfl⟩
     rw [← hB4] at hE4
     have HL4 : Hid (B4.length ≤ 1000000) := hid (by
       have h1 := HL3.out
       have h2 := flat_len drop (fun n hn => by
         have h1 : 1 ≤ n ∧ n ≤ 999999 := of_decide_eq_true (HG8.out n hn)
         rcases HLN.out n with h | h <;> omega)
       rw [hB4, List.length_append]; omega)
     have HQ4 := hid hB4
     have HE4 := hid hE4
     have K3 := hid (hE4.lit (N := w4.heap.size) rfl [log, next] rfl (by simp) (by have := HL4.out; omega) (by simp; omega))
     obtain ⟨d0, d1, d2, d3⟩ := hE4.c
     simp only at d0 d1 d2 d3
     clear hE4 hB4 K2 HE3
     go_wp2_with fail
     refine K3.out.mono ?_
     rintro r w5 ⟨rfl, hE5, -⟩
     have HE5 := hid hE5
     obtain ⟨A5, c5, hx5, ho5⟩ := hE5.nb.at_
     have HO5 := hid ho5
     have hc5 := box_cell hx5
     obtain ⟨N5, hN5⟩ : ∃ N, N = (B4 ++ List.flatMap numI [log, next]).length := ⟨_, rfl⟩
     rw [← hN5] at hc5
     have HN5 := hid hN5
     clear hE5 ho5 hx5 hN5 K3 HE4
     go_wp2_with fail
     refine bodyPost_ret (results_tmp2 rfl _ _ _) rfl ?_
     have hfin : enc (Ev.ed ⟨A, c, add, DA, dc, drop, log, next⟩) = B4 ++ List.flatMap numI [log, next] := by
       rw [HQ4.out, HQ3.out, HBP.out]
       unfold enc Ev.ed
       simp only [List.length_map, List.flatMap_cons, List.flatMap_nil, List.append_nil, List.append_assoc]
     refine ⟨HE5.out.below, .inr ⟨HOK.out.symm, A5, c5, ?_, ?_⟩⟩
     · rw [hfin, HN5.out]; rfl
     · rw [hfin]; exact HO5.out
end Ver
namespace Ver
structure Er (w0 : World) (e : Ev) (A : Option Addr) (c : Nat) (b : List UInt8) (W : World) : Prop where
 box : W.heap[w0.heap.size]? = some e.obj
 own : Own W w0.heap.size 5 A c b
 below : Below w0.heap.size w0 W
section
variable {w0 W W' : World} {e : Ev} {A A' : Option Addr} {c c' : Nat} {b b' : List UInt8}
theorem Er.lt (h : Er w0 e A c b W) : w0.heap.size < W.heap.size := (Array.getElem?_eq_some_iff.1 h.box).1
theorem Er.low (h : Er w0 e A c b W) (hb : Below W.heap.size W W') : Er w0 e A c b W' := ⟨(hb.block _ h.lt).trans h.box, h.own.below hb, h.below.trans (hb.mono (Nat.le_of_lt h.lt))⟩
theorem Er.alloc (h : Er w0 e A c b W) (o : Obj) : Er w0 e A c b (W.alloc o) := h.low ((Below.refl _ _).alloc (Nat.le_refl _) o)
theorem Er.grown (h : Er w0 e A c b W) (hg : W.grownBy W' (blk A)) (ho : Own W' w0.heap.size 5 A' c' b') : Er w0 e A' c' b' W' :=
 ⟨(hg.block _ h.lt (fun e2 => (Sto.ownTag h.own e2.symm).ne ⟨_, _, h.box⟩ (by decide) rfl)).trans h.box, ho, below_grow h.below hg (fun g e => (h.own.blk_ge g e).1) (Nat.le_of_lt h.lt)⟩
theorem Er.cs (h : Er w0 e A c b W) : W.cell? ⟨w0.heap.size, 0, none⟩ = some (.slice e.A e.add.length e.c) ∧ W.cell? ⟨w0.heap.size, 1, none⟩ = some (.slice e.DA e.drop.length e.dc) ∧ W.cell? ⟨w0.heap.size, 2, none⟩ = some (.int .i64 e.log) ∧ W.cell? ⟨w0.heap.size, 3, none⟩ = some (.int .i64 e.next) := by
 have h1 := h.box
 refine ⟨?_, ?_, ?_, ?_⟩ <;> (rw [cell_of_row _ _ _ _ _ (0, 0) h1]; rfl)
end
end Ver
namespace Ver
structure Bk (w : World) (base : Nat) (A : Option Addr) (b : List UInt8) : Prop where
 rd : RdB w w.heap.size A b
 at_ : b ≠ [] → ∀ g, blk A = some g → g < base ∨ Sto.Tag w g 5
def turnsN : List TypeId := [37, 4]
def AftN (w w' : World) (base : Nat) : Prop := Ref.Aft turnsN w w' base (fun _ => False) (fun _ => False)
def numP (most : Nat) : Option (List UInt8) → Nat × Option (List UInt8)
 | none => (0, none)
 | some b => match takeN most b with
   | none => (0, none)
   | some (n, r) => (n, some r)
def textP : Option (List UInt8) → List UInt8 × Option (List UInt8)
 | none => ([], none)
 | some b => match takeT b with
   | none => ([], none)
   | some (t, r) => (t, some r)
section
variable {w w' w1 : World} {base gb ga c d most n : Nat} {A B : Option Addr} {b r t : List UInt8} {s : Option (List UInt8)} {ts : List TypeId} {R R' : Nat → Prop}
theorem Bk.keep (h : Bk w base A b) (hs : w.heap.size ≤ w'.heap.size) (hk : b ≠ [] → ∀ k, blk A = some k → w'.heap[k]? = w.heap[k]?) : Bk w' base A b := by
 by_cases hb : b = []
 · subst hb
   exact ⟨RdB.nil, fun hn => absurd rfl hn⟩
 · exact ⟨rdB_keepS h.rd hs (fun k e _ => hk hb k e), fun _ g e => (h.at_ hb g e).imp id (fun t => t.keep (hk hb g e))⟩
theorem Bk.lt (h : Bk w base A b) (hn : b ≠ []) (hb : base ≤ w.heap.size) {g : Nat} (e : blk A = some g) : g < w.heap.size := (h.at_ hn g e).elim (fun h => by omega) (fun t => t.lt)
theorem Bk.aft (h : Bk w base A b) (hb : base ≤ w.heap.size) (ha : Ref.Aft ts w w' base R R') (hu : 5 ∉ ts) : Bk w' base A b :=
 h.keep ha.size (fun hn k e => ha.block k (h.lt hn hb e) ((h.at_ hn k e).imp id (fun t _ hT t2 => t.ne t2 (fun e2 => hu (e2 ▸ hT)) rfl)))
theorem Bk.below (h : Bk w base A b) (hb : base ≤ w.heap.size) (hw : Below w.heap.size w w') : Bk w' base A b := h.keep hw.size (fun hn k e => hw.block k (h.lt hn hb e))
structure Cu (w : World) (base gb ga : Nat) (s : Option (List UInt8)) : Prop where
 bs : base ≤ w.heap.size
 gbb : base ≤ gb
 gab : base ≤ ga
 bx : ∃ A c b am, w.heap[gb]? = some (.cells #[.slice A b.length c] 37) ∧ w.heap[ga]? = some (.cells #[.bool am] 4) ∧ Bk w base A b ∧ b.length ≤ c ∧ c ≤ 9223372036854775807 ∧ b.length ≤ 140737488355328 ∧ s = (if am = true then none else some b)
theorem AftN.trans (h1 : AftN w w1 base) (h2 : AftN w1 w' base) : AftN w w' base := Ref.Aft.trans h1 h2
theorem AftN.refl (w : World) (base : Nat) : AftN w w base := Ref.Aft.refl w base _
theorem AftN.of_below (hb : Below w.heap.size w w') : AftN w w' base := Ref.Aft.of_below hb _
theorem AftN.set (h : AftN w w' base) {g : Nat} {v : Value} {T : TypeId} (ht : Sto.Tag w' g T) (hg : base ≤ g) (hT : T ∈ turnsN) : AftN w (w'.setCell ⟨g, 0, none⟩ v) base :=
 AftN.trans h ⟨rfl, rfl, rfl, by simp, fun k hk hn => box_set_other (fun e => by
   subst e
   rcases hn with hn | hn
   · omega
   · exact hn T hT ht) _, fun _ _ h => h⟩
theorem Cu.no {A : Option Addr} (hbs : base ≤ w.heap.size) (hgb : base ≤ gb) (hga : base ≤ ga) {am : Bool} (hx : w.heap[gb]? = some (.cells #[.slice A b.length c] 37)) (hy : w.heap[ga]? = some (.cells #[.bool am] 4)) (hk : Bk w base A b) (h1 : b.length ≤ c) (h2 : c ≤ 9223372036854775807) (h3 : b.length ≤ 140737488355328)
   (hb : Below w.heap.size w w1) : Cu (w1.setCell ⟨ga, 0, none⟩ (.bool true)) base gb ga none ∧ AftN w (w1.setCell ⟨ga, 0, none⟩ (.bool true)) base := by
 have x1 := (hb.block _ (Array.getElem?_eq_some_iff.1 hx).1).trans hx
 have y1 := (hb.block _ (Array.getElem?_eq_some_iff.1 hy).1).trans hy
 have hne : gb ≠ ga := Sto.Tag.ne ⟨_, _, x1⟩ ⟨_, _, y1⟩ (by decide)
 have hk1 := hk.below hbs hb
 refine ⟨⟨by have := hb.size; simp; omega, hgb, hga, A, c, b, true, (box_set_other hne _).trans x1, box_set y1 _, hk1.keep (by simp) (fun hn k e => box_set_other (fun e2 => ?_) _), h1, h2, h3, rfl⟩, (AftN.of_below hb).set ⟨_, _, y1⟩ hga (by simp [turnsN])⟩
 subst e2
 rcases hk1.at_ hn k e with h | t
 · omega
 · exact t.ne ⟨_, _, y1⟩ (by decide) rfl
theorem Cu.yes {A B : Option Addr} (hbs : base ≤ w.heap.size) (hgb : base ≤ gb) (hga : base ≤ ga) {am : Bool} (hx : w.heap[gb]? = some (.cells #[.slice A b.length c] 37)) (hy : w.heap[ga]? = some (.cells #[.bool am] 4)) (hk : Bk w base A b) (h3 : b.length ≤ 140737488355328)
   (hb : Below w.heap.size w w1) (hr : RdB w1 w1.heap.size B r) (h1 : r.length ≤ d) (h2 : d ≤ 9223372036854775807) (hf : Frs w1 w.heap.size A B) (hrl : r.length ≤ b.length) :
   Cu ((w1.setCell ⟨ga, 0, none⟩ (.bool false)).setCell ⟨gb, 0, none⟩ (.slice B r.length d)) base gb ga (some r) ∧ AftN w ((w1.setCell ⟨ga, 0, none⟩ (.bool false)).setCell ⟨gb, 0, none⟩ (.slice B r.length d)) base := by
 have x1 := (hb.block _ (Array.getElem?_eq_some_iff.1 hx).1).trans hx
 have y1 := (hb.block _ (Array.getElem?_eq_some_iff.1 hy).1).trans hy
 have hne : gb ≠ ga := Sto.Tag.ne ⟨_, _, x1⟩ ⟨_, _, y1⟩ (by decide)
 have hk1 := hk.below hbs hb
 have hkr : Bk w1 base B r := ⟨hr, fun hn g e => by
   rcases hf g e with h | ⟨_, cs, fr, h⟩
   · exact hk1.at_ (fun e => by subst e; exact hn (List.length_eq_zero_iff.1 (by simpa using hrl))) g h
   · exact .inr ⟨cs, fr, h⟩⟩
 have x2 := (box_set_other (u := .bool false) hne).trans x1
 refine ⟨⟨by have := hb.size; simp; omega, hgb, hga, B, d, r, false, box_set x2 _, (box_set_other (fun e => hne e.symm) _).trans (box_set y1 _), hkr.keep (by simp) (fun hn k e => ?_), h1, h2, by omega, rfl⟩, ((AftN.of_below hb).set ⟨_, _, y1⟩ hga (by simp [turnsN])).set ⟨_, _, x2⟩ hgb (by simp [turnsN])⟩
 have n1 : k ≠ gb := fun e2 => by
   subst e2
   rcases hkr.at_ hn k e with h | t
   · omega
   · exact t.ne ⟨_, _, x1⟩ (by decide) rfl
 have n2 : k ≠ ga := fun e2 => by
   subst e2
   rcases hkr.at_ hn k e with h | t
   · omega
   · exact t.ne ⟨_, _, y1⟩ (by decide) rfl
 rw [box_set_other n1, box_set_other n2]
end
set_option maxHeartbeats 1000000 in
set_option maxRecDepth 100000 in
theorem number_in (most : Nat) (w : World) (base gb ga : Nat) (s : Option (List UInt8)) (h : Cu w base gb ga s) (hm : most ≤ 1099511627776) :
   Calls Tryz.prog 55 #[.int .i64 (most : Int), .pointer (some ⟨gb, 0, none⟩), .pointer (some ⟨ga, 0, none⟩)] w fun e w' => e = .returned (.int .i64 ((numP most s).1 : Int)) ∧ Cu w' base gb ga (numP most s).2 ∧ AftN w w' base := by
 obtain ⟨hbs, hgb, hga, A, c, b, am, hx, hy, hk, h1, h2, h3, hs⟩ := h
 have KT := hid (takeF_any A c b w hk.rd h3 h1 h2)
 have HX := hid hx
 have HY := hid hy
 have hg0 := box_cell hx
 have FNO : Hid (∀ w1, Below w.heap.size w w1 → Cu (w1.setCell ⟨ga, 0, none⟩ (.bool true)) base gb ga none ∧ AftN w (w1.setCell ⟨ga, 0, none⟩ (.bool true)) base) := hid (fun w1 hb => Cu.no hbs hgb hga hx hy hk h1 h2 h3 hb)
 have FYES : Hid (∀ w1 B r d, Below w.heap.size w w1 → RdB w1 w1.heap.size B r → r.length ≤ d → d ≤ 9223372036854775807 → Frs w1 w.heap.size A B → r.length ≤ b.length →
   Cu ((w1.setCell ⟨ga, 0, none⟩ (.bool false)).setCell ⟨gb, 0, none⟩ (.slice B r.length d)) base gb ga (some r) ∧ AftN w ((w1.setCell ⟨ga, 0, none⟩ (.bool false)).setCell ⟨gb, 0, none⟩ (.slice B r.length d)) base) := hid (fun w1 B r d hb hr q1 q2 hf hrl => Cu.yes hbs hgb hga hx hy hk h3 hb hr q1 q2 hf hrl)
 have hmw : IntKind.u64.wrap (most : Int) = (most : Int) := by rw [IntKind.wrap_u64]; omega
 have HNE : Hid (gb ≠ ga) := hid (Sto.Tag.ne ⟨_, _, hx⟩ ⟨_, _, hy⟩ (by decide))
 clear hx hy hk h1 h2 h3 hbs hgb hga
 go_enter Tryz.func55, Tryz.ntmps55
 go_wp2_with fail
 refine KT.out.mono ?_
 intro e w1 hT
 have HB1 := hid hT.1
 have hy1 := (HB1.out.block _ (Array.getElem?_eq_some_iff.1 HY.out).1).trans HY.out
 have hx1 := (HB1.out.block _ (Array.getElem?_eq_some_iff.1 HX.out).1).trans HX.out
 have y0 := box_cell hy1
 have yf := box_frozen hy1
 have y1 : ∀ v, (w1.setCell ⟨ga, 0, none⟩ v).cell? ⟨ga, 0, none⟩ = some v := fun v => box_cell (box_set hy1 v)
 have x0 : ∀ v, (w1.setCell ⟨ga, 0, none⟩ v).cell? ⟨gb, 0, none⟩ = some (.slice A b.length c) := fun v => box_cell ((box_set_other HNE.out v).trans hx1)
 have xf : ∀ v, (w1.setCell ⟨ga, 0, none⟩ v).frozen? ⟨gb, 0, none⟩ = false := fun v => box_frozen ((box_set_other HNE.out v).trans hx1)
 have HNO := hid (FNO.out w1 HB1.out)
 clear FNO hg0 HX HY hx1 hy1
 cases ht : Cod.take b with
 | none =>
   rw [ht] at hT
   obtain ⟨-, rfl⟩ := takenF_none hT
   have HP : Hid (numP most s = (0, none)) := hid (by rw [hs]; cases am <;> simp [numP, takeN, ht])
   clear hT hs ht
   cases am with
   | true =>
     go_wp2_with fail
     go_ret
     rw [HP.out]
     exact ⟨rfl, HNO.out⟩
   | false =>
     go_wp2_with fail
     go_ret
     rw [HP.out]
     exact ⟨rfl, HNO.out⟩
 | some v =>
   obtain ⟨n, r⟩ := v
   rw [ht] at hT
   obtain ⟨-, B, d, rfl, q1, q2, hr, hf⟩ := takenF_some hT
   have hrl : r.length ≤ b.length := by rw [Cod.take_number ht]; simp
   have HYES := hid (FYES.out w1 B r d HB1.out hr q1 q2 hf hrl)
   have hnb := (Cod.take_bound ht).1
   have HP1 : Hid (am = true ∨ most < n → numP most s = (0, none)) := hid (fun h => by
     rw [hs]
     rcases am with _ | _
     · rcases h with h | h
       · cases h
       · have : ¬ n ≤ most := by omega
         simp [numP, takeN, ht, this]
     · rfl)
   have HP2 : Hid (am = false → n ≤ most → numP most s = (n, some r)) := hid (fun h h2 => by
     rw [hs, h]
     simp [numP, takeN, ht, h2])
   clear hT hs ht hr hf hrl FYES
   cases am with
   | true =>
     go_wp2_with fail
     go_ret
     rw [HP1.out (by simp)]
     exact ⟨rfl, HNO.out⟩
   | false =>
     by_cases hn : n ≤ most
     · have hn1 : ¬ (most : Int) < (n : Int) := by omega
       have hn2 : decide ((most : Int) < (n : Int)) = false := decide_eq_false hn1
       have hn3 : IntKind.i64.wrap (n : Int) = (n : Int) := by rw [IntKind.wrap_i64]; omega
       go_wp2_with fail
       go_ret
       rw [HP2.out (by simp) hn]
       exact ⟨rfl, HYES.out⟩
     · have hn1 : (most : Int) < (n : Int) := by omega
       have hn2 : decide ((most : Int) < (n : Int)) = true := decide_eq_true hn1
       go_wp2_with fail
       go_ret
       rw [HP1.out (by right; omega)]
       exact ⟨rfl, HNO.out⟩
set_option maxHeartbeats 1000000 in
set_option maxRecDepth 100000 in
theorem text_in (w : World) (base gb ga : Nat) (s : Option (List UInt8)) (h : Cu w base gb ga s) :
   Calls Tryz.prog 57 #[.pointer (some ⟨gb, 0, none⟩), .pointer (some ⟨ga, 0, none⟩)] w fun e w' => ∃ T tc, e = .returned (.slice T (textP s).1.length tc) ∧ Ref.Rby w' w.heap.size T (textP s).1 ∧ (textP s).1.length ≤ tc ∧ Cu w' base gb ga (textP s).2 ∧ AftN w w' base := by
 obtain ⟨hbs, hgb, hga, A, c, b, am, hx, hy, hk, h1, h2, h3, hs⟩ := h
 have KT := hid (takeTextS_any A c b w hk.rd h3 h1 h2)
 have HX := hid hx
 have HY := hid hy
 have hg0 := box_cell hx
 have FNO : Hid (∀ w1, Below w.heap.size w w1 → Cu (w1.setCell ⟨ga, 0, none⟩ (.bool true)) base gb ga none ∧ AftN w (w1.setCell ⟨ga, 0, none⟩ (.bool true)) base) := hid (fun w1 hb => Cu.no hbs hgb hga hx hy hk h1 h2 h3 hb)
 have FYES : Hid (∀ w1 B r d, Below w.heap.size w w1 → RdB w1 w1.heap.size B r → r.length ≤ d → d ≤ 9223372036854775807 → Frs w1 w.heap.size A B → r.length ≤ b.length →
   Cu ((w1.setCell ⟨ga, 0, none⟩ (.bool false)).setCell ⟨gb, 0, none⟩ (.slice B r.length d)) base gb ga (some r) ∧ AftN w ((w1.setCell ⟨ga, 0, none⟩ (.bool false)).setCell ⟨gb, 0, none⟩ (.slice B r.length d)) base) := hid (fun w1 B r d hb hr q1 q2 hf hrl => Cu.yes hbs hgb hga hx hy hk h3 hb hr q1 q2 hf hrl)
 have HNE : Hid (gb ≠ ga) := hid (Sto.Tag.ne ⟨_, _, hx⟩ ⟨_, _, hy⟩ (by decide))
 clear hx hy hk h1 h2 h3 hbs hgb hga
 go_enter Tryz.func57, Tryz.ntmps57
 go_wp2_with fail
 refine KT.out.mono ?_
 intro e w1 hT
 have HB1 := hid hT.1
 have hy1 := (HB1.out.block _ (Array.getElem?_eq_some_iff.1 HY.out).1).trans HY.out
 have hx1 := (HB1.out.block _ (Array.getElem?_eq_some_iff.1 HX.out).1).trans HX.out
 have HX1 := hid hx1
 have HY1 := hid hy1
 have y0 := box_cell hy1
 have yf := box_frozen hy1
 have y1 : ∀ v, (w1.setCell ⟨ga, 0, none⟩ v).cell? ⟨ga, 0, none⟩ = some v := fun v => box_cell (box_set hy1 v)
 have x0 : ∀ v, (w1.setCell ⟨ga, 0, none⟩ v).cell? ⟨gb, 0, none⟩ = some (.slice A b.length c) := fun v => box_cell ((box_set_other HNE.out v).trans hx1)
 have xf : ∀ v, (w1.setCell ⟨ga, 0, none⟩ v).frozen? ⟨gb, 0, none⟩ = false := fun v => box_frozen ((box_set_other HNE.out v).trans hx1)
 have HNO := hid (FNO.out w1 HB1.out)
 clear FNO hg0 HX HY hx1 hy1
 cases ht : cutT (Cod.take b) with
 | none =>
   rw [ht] at hT
   obtain ⟨-, rfl⟩ := takenS_none hT
   have HP : Hid (textP s = ([], none)) := hid (by rw [hs]; cases am <;> simp [textP, takeT, ht])
   clear hT hs ht
   cases am with
   | true =>
     go_wp2_with fail
     go_ret
     rw [HP.out]
     exact ⟨none, 0, rfl, Ref.Rby.nil _ _, Nat.le_refl _, HNO.out⟩
   | false =>
     go_wp2_with fail
     go_ret
     rw [HP.out]
     exact ⟨none, 0, rfl, Ref.Rby.nil _ _, Nat.le_refl _, HNO.out⟩
 | some v =>
   obtain ⟨t, r⟩ := v
   rw [ht] at hT
   obtain ⟨-, T, tc, B, d, rfl, ho, hr, q1, q2, hf⟩ := takenS_some hT
   have hrl : r.length ≤ b.length := by rw [takeT_eq (b := b) (t := t) (r := r) ht]; simp
   have HYES := hid (FYES.out w1 B r d HB1.out hr q1 q2 hf hrl)
   have HP1 : Hid (am = true → textP s = ([], none)) := hid (fun h => by
     rw [hs, h]
     rfl)
   have HP2 : Hid (am = false → textP s = (t, some r)) := hid (fun h => by
     rw [hs, h]
     simp [textP, takeT, ht])
   have HOT : Hid (Ref.Rby ((w1.setCell ⟨ga, 0, none⟩ (.bool false)).setCell ⟨gb, 0, none⟩ (.slice B r.length d)) w.heap.size T t ∧ t.length ≤ tc) := hid ⟨(Ref.Rby.own ho (Nat.le_refl _)).keep (by simp) (fun k e => by
     have n1 := (Sto.ownTag ho e).ne ⟨_, _, HX1.out⟩ (by decide)
     have n2 := (Sto.ownTag ho e).ne ⟨_, _, HY1.out⟩ (by decide)
     rw [box_set_other n1, box_set_other n2]), ho.cap⟩
   clear hT hs ht hr hf hrl FYES ho
   cases am with
   | true =>
     go_wp2_with fail
     go_ret
     rw [HP1.out (by simp)]
     exact ⟨none, 0, rfl, Ref.Rby.nil _ _, Nat.le_refl _, HNO.out⟩
   | false =>
     go_wp2_with fail
     go_ret
     rw [HP2.out (by simp)]
     exact ⟨T, tc, rfl, HOT.out.1, HOT.out.2, HYES.out⟩
end Ver
end Go.Proofs.YtgmnhdkdicgkcaaGreatDoor
namespace Go.Proofs.YtgmnhdkdicgkcaaGreatDoor
namespace Ver
abbrev Os := Option (List UInt8)
def fileP (a c : Nat) (s : Os) : Fi × Os :=
 (⟨(numP a s).1, (numP c (numP a s).2).1, (textP (numP c (numP a s).2).2).1, (textP (textP (numP c (numP a s).2).2).2).1, (numP 1099511627776 (textP (textP (numP c (numP a s).2).2).2).2).1, (numP 1099511627776 (numP 1099511627776 (textP (textP (numP c (numP a s).2).2).2).2).2).1⟩,
  (numP 1099511627776 (numP 1099511627776 (textP (textP (numP c (numP a s).2).2).2).2).2).2)
def filesP (a c : Nat) : Nat → Os → List Fi × Os
 | 0, s => ([], s)
 | k + 1, s => ((filesP a c k s).1 ++ [(fileP a c (filesP a c k s).2).1], (fileP a c (filesP a c k s).2).2)
def numsP (a : Nat) : Nat → Os → List Int × Os
 | 0, s => ([], s)
 | k + 1, s => ((numsP a k s).1 ++ [((numP a (numsP a k s).2).1 : Int)], (numP a (numsP a k s).2).2)
section
variable {a c m M k n : Nat} {b r : List UInt8} {s : Os}
theorem numP_none : numP m none = (0, none) := rfl
theorem textP_none : textP none = ([], none) := rfl
theorem numP_some (h : takeN m b = some (n, r)) : numP m (some b) = (n, some r) := by simp [numP, h]
theorem numP_bad (h : takeN m b = none) : numP m (some b) = (0, none) := by simp [numP, h]
theorem textP_some {t : List UInt8} (h : takeT b = some (t, r)) : textP (some b) = (t, some r) := by simp [textP, h]
theorem textP_bad (h : takeT b = none) : textP (some b) = ([], none) := by simp [textP, h]
theorem numP_bd : (numP m s).1 ≤ m := by
 rcases s with _ | b
 · simp [numP]
 · rcases h : takeN m b with _ | ⟨n, r⟩
   · simp [numP_bad h]
   · rw [numP_some h]; exact (takeN_eq h).2
theorem fileP_bad (h : takeF a c b = none) : (fileP a c (some b)).2 = none := by
 unfold takeF at h
 unfold fileP
 rcases h1 : takeN a b with _ | ⟨n1, b1⟩
 · simp [numP_bad h1, numP_none, textP_none]
 rw [h1] at h; simp only at h
 rw [numP_some h1]; simp only
 rcases h2 : takeN c b1 with _ | ⟨n2, b2⟩
 · simp [numP_bad h2, numP_none, textP_none]
 rw [h2] at h; simp only at h
 rw [numP_some h2]; simp only
 rcases h3 : takeT b2 with _ | ⟨n3, b3⟩
 · simp [textP_bad h3, numP_none, textP_none]
 rw [h3] at h; simp only at h
 rw [textP_some h3]; simp only
 rcases h4 : takeT b3 with _ | ⟨n4, b4⟩
 · simp [textP_bad h4, numP_none]
 rw [h4] at h; simp only at h
 rw [textP_some h4]; simp only
 rcases h5 : takeN 1099511627776 b4 with _ | ⟨n5, b5⟩
 · simp [numP_bad h5, numP_none]
 rw [h5] at h; simp only at h
 rw [numP_some h5]; simp only
 rcases h6 : takeN 1099511627776 b5 with _ | ⟨n6, b6⟩
 · simp [numP_bad h6]
 rw [h6] at h; simp only at h
 cases h
theorem fileP_some {f : Fi} (h : takeF a c b = some (f, r)) : fileP a c (some b) = (f, some r) := by
 unfold takeF at h
 unfold fileP
 rcases h1 : takeN a b with _ | ⟨n1, b1⟩
 · rw [h1] at h; cases h
 rw [h1] at h; simp only at h
 rw [numP_some h1]; simp only
 rcases h2 : takeN c b1 with _ | ⟨n2, b2⟩
 · rw [h2] at h; cases h
 rw [h2] at h; simp only at h
 rw [numP_some h2]; simp only
 rcases h3 : takeT b2 with _ | ⟨n3, b3⟩
 · rw [h3] at h; cases h
 rw [h3] at h; simp only at h
 rw [textP_some h3]; simp only
 rcases h4 : takeT b3 with _ | ⟨n4, b4⟩
 · rw [h4] at h; cases h
 rw [h4] at h; simp only at h
 rw [textP_some h4]; simp only
 rcases h5 : takeN 1099511627776 b4 with _ | ⟨n5, b5⟩
 · rw [h5] at h; cases h
 rw [h5] at h; simp only at h
 rw [numP_some h5]; simp only
 rcases h6 : takeN 1099511627776 b5 with _ | ⟨n6, b6⟩
 · rw [h6] at h; cases h
 rw [h6] at h; simp only at h
 rw [numP_some h6]; simp only
 injection h with h; injection h with h7 h8
 rw [h7, h8]
theorem takeFs_snoc : ∀ (k : Nat) (b : List UInt8), takeFs a c (k + 1) b = match takeFs a c k b with
   | none => none
   | some (l, b1) => match takeF a c b1 with
     | none => none
     | some (f, b2) => some (l ++ [f], b2)
 | 0, b => by
   simp only [takeFs]
   rcases takeF a c b with _ | ⟨f, b1⟩ <;> rfl
 | k + 1, b => by
   rw [takeFs]
   conv => rhs; rw [takeFs]
   rcases h : takeF a c b with _ | ⟨f, b1⟩
   · rfl
   · simp only
     rw [takeFs_snoc k b1]
     rcases takeFs a c k b1 with _ | ⟨l, b2⟩
     · rfl
     · simp only
       rcases takeF a c b2 with _ | ⟨f2, b3⟩ <;> rfl
theorem takeNs_snoc : ∀ (k : Nat) (b : List UInt8), takeNs a (k + 1) b = match takeNs a k b with
   | none => none
   | some (l, b1) => match takeN a b1 with
     | none => none
     | some (f, b2) => some (l ++ [(f : Int)], b2)
 | 0, b => by
   simp only [takeNs]
   rcases takeN a b with _ | ⟨f, b1⟩ <;> rfl
 | k + 1, b => by
   rw [takeNs]
   conv => rhs; rw [takeNs]
   rcases h : takeN a b with _ | ⟨f, b1⟩
   · rfl
   · simp only
     rw [takeNs_snoc k b1]
     rcases takeNs a k b1 with _ | ⟨l, b2⟩
     · rfl
     · simp only
       rcases takeN a b2 with _ | ⟨f2, b3⟩ <;> rfl
theorem filesP_none : ∀ k, (filesP a c k none).2 = none
 | 0 => rfl
 | k + 1 => by rw [filesP, filesP_none k]; rfl
theorem filesP_eq : ∀ (k : Nat), (takeFs a c k b = none → (filesP a c k (some b)).2 = none) ∧ ∀ l r, takeFs a c k b = some (l, r) → filesP a c k (some b) = (l, some r)
 | 0 => by
   refine ⟨fun h => (by cases h), fun l r h => ?_⟩
   injection h with h; injection h with h1 h2
   subst h1 h2
   rfl
 | k + 1 => by
   obtain ⟨i1, i2⟩ := filesP_eq k
   rw [takeFs_snoc]
   rcases h : takeFs a c k b with _ | ⟨l1, b1⟩
   · refine ⟨fun _ => by rw [filesP, i1 h]; rfl, fun l r h => by cases h⟩
   · simp only
     have e := i2 _ _ h
     rcases h2 : takeF a c b1 with _ | ⟨f, b2⟩
     · refine ⟨fun _ => by rw [filesP, e]; exact fileP_bad h2, fun l r h => by cases h⟩
     · refine ⟨fun h => (by cases h), fun l r h => ?_⟩
       injection h with h; injection h with h3 h4
       rw [filesP, e]; simp only
       rw [fileP_some h2, ← h3, ← h4]
theorem numsP_eq : ∀ (k : Nat), (takeNs a k b = none → (numsP a k (some b)).2 = none) ∧ ∀ l r, takeNs a k b = some (l, r) → numsP a k (some b) = (l, some r)
 | 0 => by
   refine ⟨fun h => (by cases h), fun l r h => ?_⟩
   injection h with h; injection h with h1 h2
   subst h1 h2
   rfl
 | k + 1 => by
   obtain ⟨i1, i2⟩ := numsP_eq k
   rw [takeNs_snoc]
   rcases h : takeNs a k b with _ | ⟨l1, b1⟩
   · refine ⟨fun _ => by rw [numsP, i1 h]; rfl, fun l r h => by cases h⟩
   · simp only
     have e := i2 _ _ h
     rcases h2 : takeN a b1 with _ | ⟨f, b2⟩
     · refine ⟨fun _ => by rw [numsP, e]; simp only; rw [numP_bad h2], fun l r h => by cases h⟩
     · refine ⟨fun h => (by cases h), fun l r h => ?_⟩
       injection h with h; injection h with h3 h4
       rw [numsP, e]; simp only
       rw [numP_some h2, ← h3, ← h4]
end
def edP (m M a c : Nat) (b : List UInt8) : Ed × Os :=
 let n := numP m (some b)
 let A := filesP a c (min n.1 M) n.2
 let k := numP m A.2
 let D := numsP a (min k.1 M) k.2
 let g := numP 1099511627776 D.2
 let x := numP 1099511627776 g.2
 (⟨A.1, D.1, g.1, x.1⟩, x.2)
theorem edP_eq (m M a c : Nat) (b : List UInt8) : (takeE m M a c b = none → (edP m M a c b).2 = none) ∧ ∀ e r, takeE m M a c b = some (e, r) → edP m M a c b = (e, some r) := by
 unfold takeE edP
 rcases h1 : takeN m b with _ | ⟨n, b1⟩
 · refine ⟨fun _ => ?_, fun e r h => by cases h⟩
   rw [numP_bad h1]
   simp only [Nat.zero_min, filesP, numP_none, numsP]
 simp only
 rw [numP_some h1]
 simp only
 rcases h2 : takeFs a c (min n M) b1 with _ | ⟨A, b2⟩
 · refine ⟨fun _ => ?_, fun e r h => by cases h⟩
   rw [(filesP_eq _).1 h2]
   simp only [Nat.zero_min, numP_none, numsP]
 simp only
 rw [(filesP_eq _).2 _ _ h2]
 simp only
 rcases h3 : takeN m b2 with _ | ⟨k, b3⟩
 · refine ⟨fun _ => ?_, fun e r h => by cases h⟩
   rw [numP_bad h3]
   simp only [Nat.zero_min, numP_none, numsP]
 simp only
 rw [numP_some h3]
 simp only
 rcases h4 : takeNs a (min k M) b3 with _ | ⟨D, b4⟩
 · refine ⟨fun _ => ?_, fun e r h => by cases h⟩
   rw [(numsP_eq _).1 h4]
   simp only [numP_none]
 simp only
 rw [(numsP_eq _).2 _ _ h4]
 simp only
 rcases h5 : takeN 1099511627776 b4 with _ | ⟨g, b5⟩
 · refine ⟨fun _ => ?_, fun e r h => by cases h⟩
   rw [numP_bad h5]
   simp only [numP_none]
 simp only
 rw [numP_some h5]
 simp only
 rcases h6 : takeN 1099511627776 b5 with _ | ⟨x, b6⟩
 · refine ⟨fun _ => ?_, fun e r h => by cases h⟩
   rw [numP_bad h6]
 simp only
 rw [numP_some h6]
 refine ⟨fun h => (by cases h), fun e r h => ?_⟩
 injection h with h; injection h with h7 h8
 rw [← h7, ← h8]
theorem dec_edP (b : List UInt8) : dec b = if (edP 50 50 999999 3 b).2 = some [] ∧ okE (edP 50 50 999999 3 b).1 = true then some (edP 50 50 999999 3 b).1 else none := by
 obtain ⟨h1, h2⟩ := edP_eq 50 50 999999 3 b
 unfold dec
 rcases h : takeE 50 50 999999 3 b with _ | ⟨e, r⟩
 · rw [h1 h]; simp
 · rw [h2 _ _ h]; simp
end Ver
end Go.Proofs.YtgmnhdkdicgkcaaGreatDoor
