/- Parts of the proof, one behind the other: Contracts of the store: SyncDir.; Contracts of the store: New, Plan. -/
import Derived.Test.YtgmnhdkdicgkcaaGreatDoorOrg19
import Derived.Test.YtgmnhdkdicgkcaaGreatDoorOrg20
namespace Go.Proofs.YtgmnhdkdicgkcaaGreatDoor
open Go.RowKit Go.Maps
open Lib (hid)
namespace Sto
section
variable {w w' : World} {base g : Nat} {s : St} {m : Mem}
theorem dclone_any {b : Nat} {bs : List Nat} {l : Dir} (hd : DirAt w b bs l) : Calls Tryz.prog 82 #[.map (some b)] w fun e w' => e = .returned (.map (some w.heap.size)) ∧ DirAt w' w.heap.size bs l ∧ DirAt w' b bs l ∧ Below w.heap.size w w' :=
 AnyW.maps_Clone_owns Tryz.mclone 9 ptrR b l.length _ w hd
theorem StAt.synced {w1 : World} (h : StAt w base g s m) (hb : Below w.heap.size w w1) (hd : DirAt w1 w.heap.size m.bs s.now) :
   StAt ((w1.setCell ⟨g, 2, none⟩ (.map (some w.heap.size))).setCell ⟨g, 3, none⟩ (.slice none 0 0)) base g { s with disk := s.now, kept := [] } { m with md := w.heap.size, KA := none, kc := 0, vs := [] } ∧
   Aft w ((w1.setCell ⟨g, 2, none⟩ (.map (some w.heap.size))).setCell ⟨g, 3, none⟩ (.slice none 0 0)) g m { m with md := w.heap.size, KA := none, kc := 0, vs := [] } := by
 obtain ⟨W, hW⟩ : ∃ W, (w1.setCell ⟨g, 2, none⟩ (.map (some w.heap.size))).setCell ⟨g, 3, none⟩ (.slice none 0 0) = W := ⟨_, rfl⟩
 have hgl := h.r.gt.lt
 have hb1 := (h.below hb).box
 have hWg : W.heap[g]? = some (.cells #[.int .i64 s.room, .map (some m.mn), .map (some w.heap.size), .slice none 0 0, .slice m.PA s.plan.length m.pc, .bool s.off] 107) := by
   rw [← hW]
   exact (heap_setG (heap_setG hb1 (.map (some w.heap.size))).2.1 (.slice none 0 0)).2.2.1
 have hz : W.heap.size = w1.heap.size := by rw [← hW]; simp
 have ko : ∀ k, k ≠ g → W.heap[k]? = w1.heap[k]? := fun k hk => by
   rw [← hW, heap_setCell_other _ ⟨g, 3, none⟩ k _ hk, heap_setCell_other _ ⟨g, 2, none⟩ k _ hk]
 have kw : ∀ k, k < w.heap.size → k ≠ g → W.heap[k]? = w.heap[k]? := fun k h1 h2 => (ko k h2).trans (hb.block k h1)
 have hr := h.r.keep (w' := W) (by rw [hz]; exact hb.size) ⟨_, _, hWg⟩ (fun k h1 h2 _ => kw k h1 h2)
 have hos : W.os = w.os ∧ W.tape = w.tape ∧ W.output = w.output := by
   rw [← hW]
   exact ⟨hb.os, hb.tape, hb.output⟩
 rw [hW]
 refine ⟨⟨hWg, hr.gt, hr.gb, hr.now, ownsMap_keepS hd (ko _ (Nat.ne_of_gt hgl)), hr.nb, Nat.le_trans h.r.gb (Nat.le_of_lt hgl), Nat.ne_of_lt h.r.now.lt, hr.bsl, hr.rwl, hr.fl, hr.bb, hr.bnd, hr.rnd, OwnS.nil _ _ _, rfl, fun i c v hc _ => by simp at hc, hr.plan, hr.pcap, hr.pmax, hr.poff,
   ⟨fun k => by simpa using h.r.ok.gnow, rfl, h.r.ok.sure, h.r.ok.len, h.r.ok.room, fun _ hc => by cases hc⟩⟩, ⟨hos.1, hos.2.1, hos.2.2, by rw [hz]; exact hb.size, fun k hk hn => kw k hk (fun e => hn (.inl e)), fun k hk hm => ?_, fun k _ e => e⟩⟩
 rcases hm with e | e | e | e | e | e
 · exact .inl e
 · exact .inr (.inl e)
 · have e : k = w.heap.size := e
   omega
 · exact .inr (.inr (.inr (.inl e)))
 · cases e
 · exact .inr (.inr (.inr (.inr (.inr e))))
theorem sync_dir_bad {x : Int} {s1 : St} (h : (x, s1) = meet s []) (h0 : ¬ x = 0) : syncDir s = (x, s1) := by
 unfold syncDir
 rw [← h]
 simp [h0]
theorem sync_dir_ok {s1 : St} (h : (0, s1) = meet s []) : syncDir s = (0, { s1 with disk := s1.now, kept := [] }) := by
 unfold syncDir
 rw [← h]
 simp
set_option maxHeartbeats 1000000 in
set_option maxRecDepth 100000 in
theorem syncDir_any (h : StAt w base g s m) : Calls Tryz.prog 91 #[.pointer (some ⟨g, 0, none⟩)] w (OpP w base g m (syncDir s)) := by
 have KM := hid (meet_any none 0 [] w base g s m h RdS.nil (by simp) (fun _ hn => by cases hn))
 obtain ⟨x, hx⟩ : ∃ x, x = meet s [] := ⟨_, rfl⟩
 rw [← hx] at KM
 obtain ⟨x0, s1⟩ := x
 have HX := hid hx
 clear hx
 go_enter Tryz.func91, Tryz.ntmps91
 go_wp2_with fail
 refine KM.out.mono ?_
 rintro e w1 ⟨rfl, A1, c1, hst, haft⟩
 have HST := hid hst
 have HAF := hid haft
 obtain ⟨_, k1, _, _, _, _⟩ := hst.cells
 clear hst haft
 by_cases h0 : x0 = 0
 · subst h0
   have KD := hid (dclone_any HST.out.r.now)
   go_wp2_with fail
   refine KD.out.mono ?_
   rintro e w2 ⟨rfl, hd2, _, hb2⟩
   have HSY := hid (HST.out.synced hb2 hd2)
   have f2 := (HST.out.below hb2).frozen 2
   have f3 := (HST.out.below hb2).frozen 3
   have fz3 : ∀ v : Value, (w2.setCell ⟨g, 2, none⟩ v).frozen? ⟨g, 3, none⟩ = false := fun v => frozen_of_row _ g 3 _ _ (heap_setG (HST.out.below hb2).box v).2.1
   obtain ⟨_, _, j2, j3, _, _⟩ := (HST.out.below hb2).cells
   have HF9 : Hid (OpP w base g m (syncDir s) (.returned (.int .i64 0)) ((w2.setCell ⟨g, 2, none⟩ (.map (some w1.heap.size))).setCell ⟨g, 3, none⟩ (.slice none 0 0))) := hid (by
     rw [sync_dir_ok HX.out]
     exact ⟨rfl, _, HSY.out.1, HAF.out.trans HSY.out.2⟩)
   clear hd2 hb2 k1
   go_wp2_with fail
   go_ret
   exact HF9.out
 · have e1 : (x0 != 0) = true := by simpa using h0
   have e2 : (x0 == 0) = false := by simpa using h0
   have HF9 : Hid (OpP w base g m (syncDir s) (.returned (.int .i64 x0)) w1) := hid (by
     rw [sync_dir_bad HX.out h0]
     exact ⟨rfl, _, HST.out, HAF.out⟩)
   clear h0
   go_wp2_with fail
   go_ret
   exact HF9.out
end
end Sto
namespace Sto
section
variable {w w' : World} {base g : Nat} {s : St} {m : Mem}
set_option maxRecDepth 100000 in
theorem new_any (room : Int) (hr1 : 1 ≤ room) (hr2 : room ≤ 16777216) (w : World) : Calls Tryz.prog 23 #[.int .i64 room] w fun e w' => ∃ g m, e = .returned (.tuple #[.pointer (some ⟨g, 0, none⟩), .int .i64 0]) ∧ StAt w' w.heap.size g (new room) m ∧ Below w.heap.size w w' := by
 have hmm := @run_makeMap Tryz.prog
 go_enter Tryz.func23, Tryz.ntmps23
 go_wp2_with fail
 go_ret2
 obtain ⟨O, hO⟩ : ∃ O, O = Obj.cells #[.int .i64 room, .map (some w.heap.size), .map (some (w.heap.size + 1)), .slice none 0 0, .slice none 0 0, .bool false] 107 := ⟨_, rfl⟩
 obtain ⟨M, hM⟩ : ∃ M, M = Obj.map #[] 0 := ⟨_, rfl⟩
 rw [← hO, ← hM]
 have hb : Below w.heap.size w (((w.alloc M).alloc M).alloc O) := (((Below.refl _ _).alloc (Nat.le_refl _) _).alloc (by simp) _).alloc (by simp; omega) _
 have z1 : (w.alloc M).heap.size = w.heap.size + 1 := by simp
 have z2 : ((w.alloc M).alloc M).heap.size = w.heap.size + 1 + 1 := by simp
 have h0 : (((w.alloc M).alloc M).alloc O).heap[w.heap.size + 1 + 1]? = some O := by
   have := heap_alloc_new ((w.alloc M).alloc M) O
   rwa [z2] at this
 have d1 : DirAt (w.alloc M) w.heap.size [] [] := by
   rw [hM]; exact World.ownsMap_made _ _ _ _
 have d2 : DirAt ((w.alloc M).alloc M) (w.heap.size + 1) [] [] := by
   have : ((w.alloc M).alloc M).ownsMap Tryz.prog 9 ptrR (w.alloc M).heap.size 0 (dirD [] []) := by
     rw [hM]; exact World.ownsMap_made _ _ _ _
   rwa [z1] at this
 have e1 : (((w.alloc M).alloc M).alloc O).heap[w.heap.size]? = (w.alloc M).heap[w.heap.size]? := by
   rw [Below.heap_alloc _ _ _ (by omega), Below.heap_alloc _ _ _ (by omega)]
 have e2 : (((w.alloc M).alloc M).alloc O).heap[w.heap.size + 1]? = ((w.alloc M).alloc M).heap[w.heap.size + 1]? := by
   rw [Below.heap_alloc _ _ _ (by omega)]
 refine ⟨w.heap.size + 1 + 1, ⟨w.heap.size, w.heap.size + 1, none, 0, [], none, 0, [], []⟩, rfl, ⟨by rw [h0, hO]; rfl, ⟨_, _, by rw [h0, hO]⟩, by omega, ownsMap_keepS d1 e1, ownsMap_keepS d2 e2, Nat.le_refl _, by simp, by simp, rfl, rfl, fun i hi => by simp [new] at hi, fun b hb => (by cases hb), List.nodup_nil, fun i j hi => by simp [new] at hi, OwnS.nil _ _ _, rfl, fun i c v hc => by simp [new] at hc, RdB.nil, Nat.le_refl _, by simp, fun k hk => (by cases hk), Ok.new room ⟨by omega, hr2⟩⟩, hb⟩
theorem own_cap_le {b0 c : Nat} {e : TypeId} {A : Option Addr} {l : List UInt8} (h : Own w b0 e A c l) : c ≤ 9223372036854775807 := by
 rcases h.2 with ⟨hv, _⟩ | ⟨g, cap, cur, hv, _, _, _, hc, _⟩
 · injection hv with _ _ hv
   omega
 · injection hv with _ _ hv
   unfold maxLen at hc
   omega
theorem StAt.newPlan {w1 : World} (h : StAt w base g s m) (hb : Below w.heap.size w w1) {p : List UInt8} {A : Option Addr} {c : Nat} (ho : Own w1 w.heap.size 5 A c p) :
   StAt (w1.setCell ⟨g, 4, none⟩ (.slice A p.length c)) base g { s with plan := p } { m with PA := A, pc := c } ∧ Aft w (w1.setCell ⟨g, 4, none⟩ (.slice A p.length c)) g m { m with PA := A, pc := c } := by
 have h1 := h.below hb
 have hr := h1.setG 4 (.slice A p.length c)
 have hne : blk A ≠ some g := fun e => by have := (ho.blk_ge g e).1; have := h.r.gt.lt; omega
 have ho2 : Own (w1.setCell ⟨g, 4, none⟩ (.slice A p.length c)) w.heap.size 5 A c p := own_keepS ho (fun k e => heap_setCell_other w1 ⟨g, 4, none⟩ k _ (fun e2 => hne (by rw [e]; exact congrArg some e2)))
 refine ⟨⟨(heap_setG h1.box _).2.2.2.1, ⟨hr.gt, hr.gb, hr.now, hr.disk, hr.nb, hr.db, hr.ne, hr.bsl, hr.rwl, hr.fl, hr.bb, hr.bnd, hr.rnd, hr.krow, hr.kl, hr.kok, ho2.rd, ho.cap, own_cap_le ho, fun k e => ?_, hr.ok.turn p s.off⟩⟩, ?_⟩
 · have hk := (ho.blk_ge k e).1
   refine ⟨Nat.le_trans h.r.gb (by have := h.r.gt.lt; omega), ownTag ho2 e, fun r hr2 e2 => ?_⟩
   have := (h.r.row_tag hr2 e2).lt
   omega
 · have h2 : Aft w (w1.setCell ⟨g, 4, none⟩ (.slice A p.length c)) g m m := (Aft.of_below hb).trans (Aft.setG 4 _)
   refine ⟨h2.os, h2.tape, h2.output, h2.size, h2.block, h2.turn, fun k hk e => ?_⟩
   have := (ho.blk_ge k e).1
   omega
set_option maxHeartbeats 1000000 in
set_option maxRecDepth 100000 in
theorem plan_any (h : StAt w base g s m) (bA : Option Addr) (bc : Nat) (b : List UInt8) (hb : RdB w w.heap.size bA b) (hl : b.length ≤ 140737488355328) :
   Calls Tryz.prog 29 #[.pointer (some ⟨g, 0, none⟩), .slice bA b.length bc] w fun e w' => e = .returned (.tuple #[]) ∧ ∃ m', StAt w' base g { s with plan := b } m' ∧ Aft w w' g m m' := by
 have H := hid h
 have KC := hid (clone_any bA bc b w hb hl)
 clear h hb
 go_enter Tryz.func29, Tryz.ntmps29
 go_wp2_with fail
 refine KC.out.mono ?_
 rintro e w1 ⟨A1, c1, rfl, ho1, hb1⟩
 have HF := hid (H.out.newPlan hb1 ho1)
 obtain ⟨_, _, _, _, c4, _⟩ := (H.out.below hb1).cells
 have f4 := (H.out.below hb1).frozen 4
 clear ho1 hb1
 go_wp2_with fail
 go_end0
 exact ⟨rfl, _, HF.out.1, HF.out.2⟩
end
end Sto
end Go.Proofs.YtgmnhdkdicgkcaaGreatDoor
