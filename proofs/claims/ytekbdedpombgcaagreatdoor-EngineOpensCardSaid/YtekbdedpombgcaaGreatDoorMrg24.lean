/- Parts of the proof, one behind the other: Contracts of the store: SyncDir.; Contracts of the store: New, Plan. -/
import Derived.Test.YtekbdedpombgcaaGreatDoorMrg22
import Derived.Test.YtekbdedpombgcaaGreatDoorMrg23
namespace Go.Proofs.YtekbdedpombgcaaGreatDoor
open Go.RowKit Go.Maps

namespace Sto
section
variable {w w' : World} {base g : Nat} {s : St} {m : Mem}
theorem dclone_any {b : Nat} {bs : List Nat} {l : Dir} (hd : DirAt w b bs l) : Calls Tryz.prog 158 #[.map (some b)] w fun e w' => e = .returned (.map (some w.heap.size)) ∧ DirAt w' w.heap.size bs l ∧ DirAt w' b bs l ∧ Below w.heap.size w w' :=
  AnyW.maps_Clone_owns Tryz.mclone 9 ptrR b l.length _ w hd
/-- The directory as it is now is what lasts. -/
theorem StAt.synced {w1 : World} (h : StAt w base g s m) (hb : Below w.heap.size w w1) (hd : DirAt w1 w.heap.size m.bs s.now) :
    StAt ((w1.setCell ⟨g, 2, none⟩ (.map (some w.heap.size))).setCell ⟨g, 3, none⟩ (.slice none 0 0)) base g { s with disk := s.now, kept := [] } { m with md := w.heap.size, KA := none, kc := 0, vs := [] } ∧
    Aft w ((w1.setCell ⟨g, 2, none⟩ (.map (some w.heap.size))).setCell ⟨g, 3, none⟩ (.slice none 0 0)) g m { m with md := w.heap.size, KA := none, kc := 0, vs := [] } := by
  obtain ⟨W, hW⟩ : ∃ W, (w1.setCell ⟨g, 2, none⟩ (.map (some w.heap.size))).setCell ⟨g, 3, none⟩ (.slice none 0 0) = W := ⟨_, rfl⟩
  have hgl := h.r.gt.lt
  have hb1 := (h.below hb).box
  have hWg : W.heap[g]? = some (.cells #[.int .i64 s.room, .map (some m.mn), .map (some w.heap.size), .slice none 0 0, .slice m.PA s.plan.length m.pc, .bool s.off] 44) := by
    rw [← hW]
    exact (heap_setG (heap_setG hb1 (.map (some w.heap.size))).2.1 (.slice none 0 0)).2.2.1
  have hz : W.heap.size = w1.heap.size := by rw [← hW]; simp
  have ko : ∀ k, k ≠ g → W.heap[k]? = w1.heap[k]? := fun k hk => by
    rw [← hW, heap_setCell_other _ ⟨g, 3, none⟩ k _ hk, heap_setCell_other _ ⟨g, 2, none⟩ k _ hk]
  have kw : ∀ k, k < w.heap.size → k ≠ g → W.heap[k]? = w.heap[k]? := fun k h1 h2 => (ko k h2).trans (hb.block k h1)
  have hr := h.r.keep (w' := W) (by rw [hz]; exact hb.size) ⟨_, _, hWg⟩ (fun k h1 h2 _ => kw k h1 h2)
  have hos : W.os = w.os ∧ W.tape = w.tape ∧ W.output = w.output := by
    rw [← hW]
    exact ⟨hb.os, hb.tape, hb.output⟩
  rw [hW]
  refine ⟨⟨hWg, hr.gt, hr.gb, hr.now, ownsMap_keepS hd (ko _ (Nat.ne_of_gt hgl)), hr.nb, Nat.le_trans h.r.gb (Nat.le_of_lt hgl), Nat.ne_of_lt h.r.now.lt, hr.bsl, hr.rwl, hr.fl, hr.bb, hr.bnd, hr.rnd, OwnS.nil _ _ _, rfl, fun i c v hc _ => by simp at hc, hr.plan, hr.pcap, hr.pmax, hr.poff,
    ⟨fun k => by simpa using h.r.ok.gnow, rfl, h.r.ok.sure, h.r.ok.len, h.r.ok.room, fun _ hc => by cases hc⟩⟩, ⟨hos.1, hos.2.1, hos.2.2, by rw [hz]; exact hb.size, fun k hk hn => kw k hk (fun e => hn (.inl e)), fun k hk hm => ?_, fun k _ e => e⟩⟩
  rcases hm with e | e | e | e | e | e
  · exact .inl e
  · exact .inr (.inl e)
  · have e : k = w.heap.size := e
    omega
  · exact .inr (.inr (.inr (.inl e)))
  · cases e
  · exact .inr (.inr (.inr (.inr (.inr e))))
theorem sync_dir_bad {x : Int} {s1 : St} (h : (x, s1) = meet s []) (h0 : ¬ x = 0) : syncDir s = (x, s1) := by
  unfold syncDir
  rw [← h]
  simp [h0]
theorem sync_dir_ok {s1 : St} (h : (0, s1) = meet s []) : syncDir s = (0, { s1 with disk := s1.now, kept := [] }) := by
  unfold syncDir
  rw [← h]
  simp
set_option maxHeartbeats 1000000 in
set_option maxRecDepth 100000 in
theorem syncDir_any (h : StAt w base g s m) : Calls Tryz.prog 78 #[.pointer (some ⟨g, 0, none⟩)] w (OpP w base g m (syncDir s)) := by
  have KM := Lib.hid (meet_any none 0 [] w base g s m h RdS.nil (by simp) (fun _ hn => by cases hn))
  obtain ⟨x, hx⟩ : ∃ x, x = meet s [] := ⟨_, rfl⟩
  rw [← hx] at KM
  obtain ⟨x0, s1⟩ := x
  have HX := Lib.hid hx
  clear hx
  go_enter Tryz.func78, Tryz.ntmps78
  go_wp2_with fail
  refine KM.out.mono ?_
  rintro e w1 ⟨rfl, A1, c1, hst, haft⟩
  have HST := Lib.hid hst
  have HAF := Lib.hid haft
  obtain ⟨_, k1, _, _, _, _⟩ := hst.cells
  clear hst haft
  by_cases h0 : x0 = 0
  · subst h0
    have KD := Lib.hid (dclone_any HST.out.r.now)
    go_wp2_with fail
    refine KD.out.mono ?_
    rintro e w2 ⟨rfl, hd2, _, hb2⟩
    have HSY := Lib.hid (HST.out.synced hb2 hd2)
    have f2 := (HST.out.below hb2).frozen 2
    have f3 := (HST.out.below hb2).frozen 3
    have fz3 : ∀ v : Value, (w2.setCell ⟨g, 2, none⟩ v).frozen? ⟨g, 3, none⟩ = false := fun v => frozen_of_row _ g 3 _ _ (heap_setG (HST.out.below hb2).box v).2.1
    obtain ⟨_, _, j2, j3, _, _⟩ := (HST.out.below hb2).cells
    have HF9 : Hid (OpP w base g m (syncDir s) (.returned (.int .i64 0)) ((w2.setCell ⟨g, 2, none⟩ (.map (some w1.heap.size))).setCell ⟨g, 3, none⟩ (.slice none 0 0))) := Lib.hid (by
      rw [sync_dir_ok HX.out]
      exact ⟨rfl, _, HSY.out.1, HAF.out.trans HSY.out.2⟩)
    clear hd2 hb2 k1
    go_wp2_with fail
    go_ret
    exact HF9.out
  · have e1 : (x0 != 0) = true := by simpa using h0
    have e2 : (x0 == 0) = false := by simpa using h0
    have HF9 : Hid (OpP w base g m (syncDir s) (.returned (.int .i64 x0)) w1) := Lib.hid (by
      rw [sync_dir_bad HX.out h0]
      exact ⟨rfl, _, HST.out, HAF.out⟩)
    clear h0
    go_wp2_with fail
    go_ret
    exact HF9.out
end
end Sto
end Go.Proofs.YtekbdedpombgcaaGreatDoor

namespace Go.Proofs.YtekbdedpombgcaaGreatDoor
open Go.RowKit Go.Maps

namespace Sto
section
variable {w w' : World} {base g : Nat} {s : St} {m : Mem}
set_option maxRecDepth 100000 in
theorem new_any (room : Int) (hr1 : 1 ≤ room) (hr2 : room ≤ 16777216) (w : World) : Calls Tryz.prog 5 #[.int .i64 room] w fun e w' => ∃ g m, e = .returned (.tuple #[.pointer (some ⟨g, 0, none⟩), .int .i64 0]) ∧ StAt w' w.heap.size g (new room) m ∧ Below w.heap.size w w' := by
  have hmm := @run_makeMap Tryz.prog
  go_enter Tryz.func5, Tryz.ntmps5
  go_wp2_with fail
  go_ret2
  obtain ⟨O, hO⟩ : ∃ O, O = Obj.cells #[.int .i64 room, .map (some w.heap.size), .map (some (w.heap.size + 1)), .slice none 0 0, .slice none 0 0, .bool false] 44 := ⟨_, rfl⟩
  obtain ⟨M, hM⟩ : ∃ M, M = Obj.map #[] 0 := ⟨_, rfl⟩
  rw [← hO, ← hM]
  have hb : Below w.heap.size w (((w.alloc M).alloc M).alloc O) := (((Below.refl _ _).alloc (Nat.le_refl _) _).alloc (by simp) _).alloc (by simp; omega) _
  have z1 : (w.alloc M).heap.size = w.heap.size + 1 := by simp
  have z2 : ((w.alloc M).alloc M).heap.size = w.heap.size + 1 + 1 := by simp
  have h0 : (((w.alloc M).alloc M).alloc O).heap[w.heap.size + 1 + 1]? = some O := by
    have := heap_alloc_new ((w.alloc M).alloc M) O
    rwa [z2] at this
  have d1 : DirAt (w.alloc M) w.heap.size [] [] := by
    rw [hM]; exact World.ownsMap_made _ _ _ _
  have d2 : DirAt ((w.alloc M).alloc M) (w.heap.size + 1) [] [] := by
    have : ((w.alloc M).alloc M).ownsMap Tryz.prog 9 ptrR (w.alloc M).heap.size 0 (dirD [] []) := by
      rw [hM]; exact World.ownsMap_made _ _ _ _
    rwa [z1] at this
  have e1 : (((w.alloc M).alloc M).alloc O).heap[w.heap.size]? = (w.alloc M).heap[w.heap.size]? := by
    rw [Below.heap_alloc _ _ _ (by omega), Below.heap_alloc _ _ _ (by omega)]
  have e2 : (((w.alloc M).alloc M).alloc O).heap[w.heap.size + 1]? = ((w.alloc M).alloc M).heap[w.heap.size + 1]? := by
    rw [Below.heap_alloc _ _ _ (by omega)]
  refine ⟨w.heap.size + 1 + 1, ⟨w.heap.size, w.heap.size + 1, none, 0, [], none, 0, [], []⟩, rfl, ⟨by rw [h0, hO]; rfl, ⟨_, _, by rw [h0, hO]⟩, by omega, ownsMap_keepS d1 e1, ownsMap_keepS d2 e2, Nat.le_refl _, by simp, by simp, rfl, rfl, fun i hi => by simp [new] at hi, fun b hb => (by cases hb), List.nodup_nil, fun i j hi => by simp [new] at hi, OwnS.nil _ _ _, rfl, fun i c v hc => by simp [new] at hc, RdB.nil, Nat.le_refl _, by simp, fun k hk => (by cases hk), Ok.new room ⟨by omega, hr2⟩⟩, hb⟩
end
end Sto
end Go.Proofs.YtekbdedpombgcaaGreatDoor
