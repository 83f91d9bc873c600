/- Parts of the proof, one behind the other: Contract: the book's State.; Contracts: Open, of a store that holds no state. The law's awake.; The law VersionCodes, walked. -/
import Derived.Test.YtgmnhdkdicgkcaaGreatDoorNrg37
namespace Go.Proofs.YtgmnhdkdicgkcaaGreatDoor
open Go.RowKit Go.Maps

namespace Ver
theorem state_size : (Tryz.prog.info? 24).map (fun x => x.size) = some 3 := by kernel_rfl
set_option maxHeartbeats 1000000 in
set_option maxRecDepth 100000 in
theorem state_any (w : World) (bs g gk : Nat) (list : Sto.Str) (A : Option Addr) (c : Nat) (l : List Vf) (log next : Int) (br : Bool) (hk : w.heap[gk]? = some (bkObj g list A l c log next br)) (hov : OwV w bs A c l) (hll : l.length ≤ 1000000) (hb : ∀ v ∈ l, v.first.length ≤ 1000000 ∧ v.last.length ≤ 1000000) :
    Calls Tryz.prog 35 #[.pointer (some ⟨gk, 0, none⟩)] w fun e w' => ∃ (A' : Option Addr) (c' : Nat) (l' : List Vf), e = .returned (.agg #[.slice A' l'.length c', .int .i64 log, .int .i64 next]) ∧ l'.map Vf.fi = l.map Vf.fi ∧ OwV w' w.heap.size A' c' l' ∧ Below w.heap.size w w' := by
  obtain ⟨w2, hw2⟩ : ∃ w2, w2 = (w.alloc (.cells #[.slice none 0 0, .int .i64 0, .int .i64 0] 24)).alloc (.cells #[.slice A l.length c, .int .i64 log, .int .i64 next] 24) := ⟨_, rfl⟩
  have hb2 : Below w.heap.size w w2 := by rw [hw2]; exact ((Below.refl _ _).alloc (Nat.le_refl _) _).alloc (by simp) _
  have KC := Lib.hid (vcopied_any l A c w2 (hov.below hb2).rd hll hb)
  have hkX : ∀ X, Below w.heap.size w X → X.cell? ⟨gk, 2, none⟩ = some (.slice A l.length c) ∧ X.cell? ⟨gk, 3, none⟩ = some (.int .i64 log) ∧ X.cell? ⟨gk, 4, none⟩ = some (.int .i64 next) := fun X hX => by
    have hk := (hX.block _ (Array.getElem?_eq_some_iff.1 hk).1).trans hk
    exact ⟨by rw [cell_of_row X _ 2 _ _ (0, 0) hk]; rfl, by rw [cell_of_row X _ 3 _ _ (0, 0) hk]; rfl, by rw [cell_of_row X _ 4 _ _ (0, 0) hk]; rfl⟩
  obtain ⟨k1, k2, k3⟩ := hkX (w.alloc (.cells #[.slice none 0 0, .int .i64 0, .int .i64 0] 24)) ((Below.refl _ _).alloc (Nat.le_refl _) _)
  have HB2 := Lib.hid hb2
  have HW2 := Lib.hid hw2
  rw [hw2] at KC
  clear hk hov hw2 hb2 hkX hb
  go_enter Tryz.func35, Tryz.ntmps35
  go_wp2_with fail
  refine KC.out.mono ?_
  rintro e w3 ⟨A', c', l', rfl, hf, ho, hb3⟩
  have hz2 : w2.heap.size = w.heap.size + 1 + 1 := by rw [HW2.out]; simp
  rw [← HW2.out] at ho hb3
  have x0 : w3.heap[w.heap.size]? = some (.cells #[.slice none 0 0, .int .i64 0, .int .i64 0] 24) := by
    refine (hb3.block _ (by omega)).trans ?_
    rw [HW2.out, Below.heap_alloc _ _ _ (by simp)]
    exact heap_alloc_new w _
  have x1 : w3.heap[w.heap.size + 1]? = some (.cells #[.slice A l.length c, .int .i64 log, .int .i64 next] 24) := by
    refine (hb3.block _ (by omega)).trans ?_
    rw [HW2.out]
    have := heap_alloc_new (w.alloc (.cells #[.slice none 0 0, .int .i64 0, .int .i64 0] 24)) (.cells #[.slice A l.length c, .int .i64 log, .int .i64 next] 24)
    simpa using this
  obtain ⟨p0, p1, p2⟩ : w3.cell? ⟨w.heap.size, 0, none⟩ = some (.slice none 0 0) ∧ w3.cell? ⟨w.heap.size, 1, none⟩ = some (.int .i64 0) ∧ w3.cell? ⟨w.heap.size, 2, none⟩ = some (.int .i64 0) := ⟨by rw [cell_of_row _ _ 0 _ _ (0, 0) x0]; rfl, by rw [cell_of_row _ _ 1 _ _ (0, 0) x0]; rfl, by rw [cell_of_row _ _ 2 _ _ (0, 0) x0]; rfl⟩
  obtain ⟨q0, q1, q2⟩ : w3.cell? ⟨w.heap.size + 1, 0, none⟩ = some (.slice A l.length c) ∧ w3.cell? ⟨w.heap.size + 1, 1, none⟩ = some (.int .i64 log) ∧ w3.cell? ⟨w.heap.size + 1, 2, none⟩ = some (.int .i64 next) := ⟨by rw [cell_of_row _ _ 0 _ _ (0, 0) x1]; rfl, by rw [cell_of_row _ _ 1 _ _ (0, 0) x1]; rfl, by rw [cell_of_row _ _ 2 _ _ (0, 0) x1]; rfl⟩
  have f0 := frozen_of_row w3 _ 0 _ _ x0
  have f1 := frozen_of_row w3 _ 1 _ _ x0
  have f2 := frozen_of_row w3 _ 2 _ _ x0
  have f3 := frozen_of_row w3 _ 0 _ _ x1
  have HX0 := Lib.hid x0
  have HX1 := Lib.hid x1
  have HB3 := Lib.hid (HB2.out.trans (hb3.mono HB2.out.size))
  have HO := Lib.hid ho
  have HZ2 := Lib.hid hz2
  have HZ := Lib.hid hb3.size
  have HF := Lib.hid hf
  clear hz2 x0 x1 hb3 ho hf KC HW2
  go_wp2_with fail
  clear p0 p1 p2 q0 q1 q2 f0 f1 f2 f3 k1 k2 k3
  have hne : w.heap.size ≠ w.heap.size + 1 := by omega
  have hbf : Below w.heap.size w ((((w3.setCell ⟨w.heap.size + 1, 0, none⟩ (.slice A' l'.length c')).setCell ⟨w.heap.size, 0, none⟩ (.slice A' l'.length c')).setCell ⟨w.heap.size, 1, none⟩ (.int .i64 log)).setCell ⟨w.heap.size, 2, none⟩ (.int .i64 next)) := ((((HB3.out.setCell (Nat.le_succ _) _).setCell (Nat.le_refl _) _).setCell (Nat.le_refl _) _).setCell (Nat.le_refl _) _)
  have hx : ((((w3.setCell ⟨w.heap.size + 1, 0, none⟩ (.slice A' l'.length c')).setCell ⟨w.heap.size, 0, none⟩ (.slice A' l'.length c')).setCell ⟨w.heap.size, 1, none⟩ (.int .i64 log)).setCell ⟨w.heap.size, 2, none⟩ (.int .i64 next)).heap[w.heap.size]? = some (.cells #[.slice A' l'.length c', .int .i64 log, .int .i64 next] 24) := by
    have h0 := (Below.heap_setCell w3 ⟨w.heap.size + 1, 0, none⟩ (.slice A' l'.length c') w.heap.size hne).trans HX0.out
    have h1 := heap_setCell_same _ w.heap.size 0 _ 24 (.slice A' l'.length c') h0
    have h2 := heap_setCell_same _ w.heap.size 1 _ 24 (.int .i64 log) h1
    have h3 := heap_setCell_same _ w.heap.size 2 _ 24 (.int .i64 next) h2
    simpa using h3
  have hz3 : w2.heap.size ≤ w3.heap.size := HZ.out
  have hoF := HO.out.keep (w' := ((((w3.setCell ⟨w.heap.size + 1, 0, none⟩ (.slice A' l'.length c')).setCell ⟨w.heap.size, 0, none⟩ (.slice A' l'.length c')).setCell ⟨w.heap.size, 1, none⟩ (.int .i64 log)).setCell ⟨w.heap.size, 2, none⟩ (.int .i64 next))) (by simp [World.setCell]) (fun q e => by
    have hq := (owV_lt HO.out e).1
    have n1 : q ≠ w.heap.size + 1 := by have := HZ2.out; omega
    have n2 : q ≠ w.heap.size := by have := HZ2.out; omega
    rw [Below.heap_setCell _ _ _ _ n2, Below.heap_setCell _ _ _ _ n2, Below.heap_setCell _ _ _ _ n2, Below.heap_setCell _ _ _ _ n1])
  refine bodyPost_ret (results_cell_row rfl _ _ w.heap.size 24 #[.slice A' l'.length c', .int .i64 log, .int .i64 next] (0, 0) _ rfl hx Tryz.underlying24 rfl state_size) rfl ?_
  exact ⟨A', c', l', rfl, HF.out, hoF.mono (by have := HZ2.out; omega), hbf⟩
end Ver
end Go.Proofs.YtgmnhdkdicgkcaaGreatDoor

namespace Go.Proofs.YtgmnhdkdicgkcaaGreatDoor
open Go.RowKit Go.Maps

namespace Ver
theorem AftB.new {w w1 w' : World} {g gk : Nat} {m m' : Sto.Mem} (hb : Below w.heap.size w w1) (hg : w.heap.size ≤ gk) (h : AftB w1 w' g gk m m') : Sto.Aft w w' g m m' :=
  ⟨h.os.trans hb.os, h.tape.trans hb.tape, h.output.trans hb.output, Nat.le_trans hb.size h.size, fun k hk hn => (h.block k (Nat.lt_of_lt_of_le hk hb.size) hn (by omega)).trans (hb.block k hk), fun k hk hm => h.turn k (Nat.lt_of_lt_of_le hk hb.size) hm, fun k hk hm => h.pa k (Nat.lt_of_lt_of_le hk hb.size) hm⟩
set_option maxHeartbeats 2000000 in
set_option maxRecDepth 100000 in
theorem open_new (w : World) (base g : Nat) (m : Sto.Mem) (s : Sto.St) (h : Sto.StAt w base g s m) (ht : TabU base w) (hoff : s.off = false) (hl : s.kept.length ≤ 800000) (hf : s.files.length ≤ 800000) (hcur : curB ∉ Sto.names s)
    (p : (Int × Sto.St) × Sto.Str) (hp : p = beginP s [] (edSt ⟨[], 0, 1⟩)) (h0 : p.1.1 = 0) (hno : ∀ n ∈ Sto.names p.1.2, goneB [] p.2 n = false) (hsz : p.1.2.files.length ≤ 1000000) :
    Calls Tryz.prog 25 #[.pointer (some ⟨g, 0, none⟩)] w fun e w' => ∃ gk m', e = .returned (.tuple #[.pointer (some ⟨gk, 0, none⟩), .int .i64 0]) ∧ w.heap.size ≤ gk ∧ Sto.StAt w' base g p.1.2 m' ∧ Sto.Aft w w' g m m' ∧ w'.heap[gk]? = some (bkObj g p.2 none [] 0 0 1 false) := by
  have hnl : (Sto.names s).length ≤ 800000 := by
    unfold Sto.names
    rw [List.length_map]
    exact Nat.le_trans h.r.ok.gnow.len hf
  have KO := Lib.hid (Sto.off_any h)
  rw [hoff] at KO
  obtain ⟨w1, hw1⟩ : ∃ w1, w1 = w.alloc (.cells #[.pointer (some ⟨g, 0, none⟩), .string ⟨#[]⟩, .slice none 0 0, .int .i64 0, .int .i64 1, .bool false] 114) := ⟨_, rfl⟩
  have hb1 : Below w.heap.size w w1 := by rw [hw1]; exact (Below.refl _ _).alloc (Nat.le_refl _) _
  have hx1 : w1.heap[w.heap.size]? = some (bkObj g [] none [] 0 0 1 false) := by rw [hw1]; exact heap_alloc_new w _
  have KN := Lib.hid (Sto.names_any (h.below hb1) (by omega))
  have HB1 := Lib.hid hb1
  have HX1 := Lib.hid hx1
  have HP := Lib.hid hp
  have H0 := Lib.hid h0
  have HNO := Lib.hid hno
  have HS0 := Lib.hid h
  have HT := Lib.hid ht
  have HCU := Lib.hid hcur
  rw [hw1] at KN
  clear h hb1 hx1 hp h0 hno ht hcur hoff
  go_enter Tryz.func25, Tryz.ntmps25
  go_wp2_with fail
  refine KO.out.mono ?_
  rintro e w9 ⟨rfl, rfl⟩
  clear KO
  go_wp2_with fail
  refine KN.out.mono ?_
  rw [← hw1]
  rintro e w2 ⟨NA, nc, rfl, hno, hb2⟩
  have KC := Lib.hid (scontains_any NA nc (Sto.names s) curB w2 hno.rd (by omega))
  rw [decide_eq_false HCU.out] at KC
  have hbb : Below w9.heap.size w9 w2 := HB1.out.trans (hb2.mono HB1.out.size)
  have hx2 := (hb2.block _ (Array.getElem?_eq_some_iff.1 HX1.out).1).trans HX1.out
  have HB2 := Lib.hid hbb
  have HX2 := Lib.hid hx2
  have hs2 := HS0.out.below hbb
  have hbase := (HS0.out.r.mut_ge (.inl rfl))
  have ht2 : TabU base w2 := HT.out.keep (hbb.mono (by omega))
  unfold curB at KC
  clear hno hbb hx2 hb2 KN hw1
  go_wp2_with fail
  refine KC.out.mono ?_
  rintro e w8 ⟨rfl, rfl⟩
  clear KC
  obtain ⟨w3, hw3⟩ : ∃ w3, w3 = w8.alloc (.cells #[.func (.func 72) #[.pointer (some ⟨w9.heap.size, 0, none⟩)] #[], .func (.func 73) #[.pointer (some ⟨w9.heap.size, 0, none⟩)] #[]] 120) := ⟨_, rfl⟩
  have hb3 : Below w8.heap.size w8 w3 := by rw [hw3]; exact (Below.refl _ _).alloc (Nat.le_refl _) _
  have hx3 : w3.heap[w8.heap.size]? = some (.cells #[.func (.func 72) #[.pointer (some ⟨w9.heap.size, 0, none⟩)] #[], .func (.func 73) #[.pointer (some ⟨w9.heap.size, 0, none⟩)] #[]] 120) := by rw [hw3]; exact heap_alloc_new w8 _
  have hxk : w3.heap[w9.heap.size]? = some (bkObj g [] none [] 0 0 1 false) := (hb3.block _ (Array.getElem?_eq_some_iff.1 HX2.out).1).trans HX2.out
  have hs3 := hs2.below hb3
  have hb8 : base ≤ w8.heap.size := by have := HB2.out.size; omega
  have ht3 : TabU base w3 := ht2.keep (hb3.mono hb8)
  obtain ⟨fs, hfs⟩ : ∃ fs : List Fc, fs = [⟨72, [.pointer (some ⟨w9.heap.size, 0, none⟩)], []⟩, ⟨73, [.pointer (some ⟨w9.heap.size, 0, none⟩)], []⟩] := ⟨_, rfl⟩
  have KB := begin_any w3 base base g w9.heap.size m s hs3 ht3 hl hf [] none 0 [] 0 1 false hxk (OwV.nil w3 base) (fun q e => by
    rcases e with e | ⟨v, hv, _⟩
    · cases e
    · cases hv) (by simp)
  have hp9 := HP.out
  rw [show edSt ⟨[], 0, 1⟩ = edSt ⟨([] : List Vf).map Vf.fi, 0, 1⟩ from rfl] at hp9
  rw [← hp9] at KB
  have KA := Lib.hid (all_any (σ := Bool × Sto.St) fs [fun _ => (p.1.1, (true, p.1.2)), fun s => (0, s)] (by rw [hfs]; rfl) (fun k y X => (X.heap[w8.heap.size]? = w3.heap[w8.heap.size]?) ∧ (k = 0 → y.1 = false ∧ X = w3) ∧ (0 < k → y.2 = p.1.2 ∧ ∃ m', Sto.StAt X base g p.1.2 m' ∧ AftB w3 X g w9.heap.size m m' ∧ X.heap[w9.heap.size]? = some (bkObj g p.2 none [] 0 0 1 false))) (some ⟨w8.heap.size, 0, none⟩) 2 (false, s) w3 ⟨rfl, fun _ => ⟨rfl, rfl⟩, fun h => absurd h (by omega)⟩ (by rw [hfs]; simp)
    (fun k y X hX => by
      have e := hX.1.trans hx3
      subst hfs
      refine RdS.of (f := F1) (n := 1) (fun _ => rfl) _ 0 (Array.getElem?_eq_some_iff.1 e).1 (fun k hk j u hj => ?_)
      have hj0 : j = 0 := by
        rcases j with _ | j
        · rfl
        · simp [F1] at hj
      subst hj0
      rw [cell_of_row _ _ _ _ _ (0, 0) e]
      rcases k with _ | _ | k
      · simpa [F1, Fc.val] using hj
      · simpa [F1, Fc.val] using hj
      · exfalso; simp only [List.length_cons, List.length_nil] at hk; omega)
    (fun f hf args w => by
      subst hfs
      simp only [List.mem_cons, List.not_mem_nil, or_false] at hf
      rcases hf with rfl | rfl <;> rfl)
    (fun k hk y X hX => by
      obtain ⟨h1, h2, h3⟩ := hX
      subst hfs
      rcases k with _ | _ | k
      · obtain ⟨_, e⟩ := h2 rfl
        subst e
        refine KB.mono ?_
        rintro e W' ⟨he, m', a1, a2, a3⟩
        refine ⟨he, ?_, by omega, fun _ => ⟨rfl, m', a1, a2, a3⟩⟩
        refine a2.block _ (Array.getElem?_eq_some_iff.1 hx3).1 (fun hm => ?_) ?_
        · have := (HS0.out.r.mut_ge hm).2
          have := HB2.out.size
          omega
        · have := (Array.getElem?_eq_some_iff.1 HX2.out).1
          omega
      · obtain ⟨hy, m', a1, a2, a3⟩ := h3 (by omega)
        refine (clean_none X base base g w9.heap.size m' p.1.2 a1 hsz p.2 none 0 [] 0 1 false a3 (OwV.nil X base) (by simp) HNO.out).mono ?_
        rintro e W' ⟨he, hb⟩
        refine ⟨he, (hb.block _ (Array.getElem?_eq_some_iff.1 (h1.trans hx3)).1).trans h1, by omega, fun _ => ⟨hy, m', a1.below hb, a2.trans (AftB.of (Sto.Aft.of_below hb)), (hb.block _ (Array.getElem?_eq_some_iff.1 a3).1).trans a3⟩⟩
      · exfalso; simp only [List.length_cons, List.length_nil] at hk; omega))
  have e2 : fs.length = 2 := by rw [hfs]; rfl
  have ep : allP [fun _ : Bool × Sto.St => (p.1.1, (true, p.1.2)), fun s => ((0 : Int), s)] (false, s) = (0, (true, p.1.2)) := by
    rw [show allP [fun _ : Bool × Sto.St => (p.1.1, (true, p.1.2)), fun s => ((0 : Int), s)] (false, s) = if p.1.1 = 0 then (0, (true, p.1.2)) else (p.1.1, (true, p.1.2)) from rfl, if_pos H0.out]
  rw [e2, ep] at KA
  have HB3 := Lib.hid hb3
  rw [hw3] at KA
  clear hb3 hx3 hxk hs3 ht3 hfs KB ep ht2 hs2 hp9
  go_wp2_with fail
  refine KA.out.mono ?_
  rw [← hw3]
  rintro e w4 ⟨rfl, j, -, h2, h3⟩
  have HF : Hid (∃ m', Sto.StAt w4 base g p.1.2 m' ∧ Sto.Aft w9 w4 g m m' ∧ w4.heap[w9.heap.size]? = some (bkObj g p.2 none [] 0 0 1 false)) := Lib.hid (by
    rcases Nat.eq_zero_or_pos j with h | h
    · have := (h2 h).1
      cases this
    · obtain ⟨_, m', a1, a2, a3⟩ := h3 h
      exact ⟨m', a1, AftB.new (HB2.out.trans (HB3.out.mono HB2.out.size)) (Nat.le_refl _) a2, a3⟩)
  clear h2 h3 KA hw3
  go_wp2_with fail
  go_ret2
  obtain ⟨m', a1, a2, a3⟩ := HF.out
  exact ⟨_, m', rfl, Nat.le_refl _, a1, a2, a3⟩
set_option maxRecDepth 100000 in
theorem new_begin : (beginP (Sto.new 1000) [] (edSt ⟨[], 0, 1⟩)).1.1 = 0 ∧ Sto.names (beginP (Sto.new 1000) [] (edSt ⟨[], 0, 1⟩)).1.2 = [curB, nm manB 1] ∧ (beginP (Sto.new 1000) [] (edSt ⟨[], 0, 1⟩)).2 = nm manB 1 ∧ (beginP (Sto.new 1000) [] (edSt ⟨[], 0, 1⟩)).1.2.files.length ≤ 1000 := by decide +kernel
set_option maxRecDepth 100000 in
theorem new_gone : ∀ n ∈ [curB, nm manB 1], goneB [] (nm manB 1) n = false := by decide +kernel
set_option maxHeartbeats 1000000 in
set_option maxRecDepth 100000 in
theorem awake_any (w : World) (ht : Tab w) : Calls Tryz.prog 8 #[] w fun e w' => e = .returned (.bool true) ∧ Below w.heap.size w w' := by
  have KN := Lib.hid (Sto.new_any 1000 (by decide) (by decide) w)
  have HT := Lib.hid (TabU.of ht)
  clear ht
  go_enter Tryz.func8, Tryz.ntmps8
  go_wp2_with fail
  refine KN.out.mono ?_
  rintro e w1 ⟨g, m, rfl, hst, hb⟩
  obtain ⟨n1, n2, n3, n4⟩ := new_begin
  obtain ⟨p, hp⟩ : ∃ p, p = beginP (Sto.new 1000) [] (edSt ⟨[], 0, 1⟩) := ⟨_, rfl⟩
  rw [← hp] at n1 n2 n3 n4
  have KO := Lib.hid (open_new w1 w.heap.size g m (Sto.new 1000) hst (HT.out.keep hb) rfl (by show (0 : Nat) ≤ 800000; decide) (by show (0 : Nat) ≤ 800000; decide) (by decide +kernel) p hp n1 (by rw [n2, n3]; exact new_gone) (by omega))
  have HB := Lib.hid hb
  have HST := Lib.hid hst
  have H2 := Lib.hid n2
  have H4 := Lib.hid n4
  clear hst hb n1 n2 n3 n4 hp KN
  go_wp2_with fail
  refine KO.out.mono ?_
  rintro e w2 ⟨gk, m2, rfl, hgk, hst, haf, hbk⟩
  have HB2 : Hid (Below w.heap.size w w2) := Lib.hid (HB.out.trans (haf.below HST.out.r))
  have KS := Lib.hid (state_any w2 w2.heap.size g gk p.2 none 0 [] 0 1 false hbk (OwV.nil w2 _) (by simp) (fun v hv => by cases hv))
  have HST2 := Lib.hid hst
  clear hgk hst haf hbk KO
  go_wp2_with fail
  refine KS.out.mono ?_
  rintro e w3 ⟨A', c', l', rfl, -, -, hb3⟩
  have KM := Lib.hid (Sto.names_any (HST2.out.below hb3) (by have := H4.out; omega))
  have HB3 := Lib.hid (HB2.out.trans (hb3.mono HB2.out.size))
  have hnl : (Sto.names p.1.2).length = 2 := by rw [H2.out]; rfl
  rw [hnl] at KM
  have hfd : ∀ w : World, (Instr.field 24 (.agg #[.slice A' l'.length c', .int .i64 0, .int .i64 1]) 2).run Tryz.prog w = .ok (.int .i64 1) w := fun _ => by kernel_rfl
  clear hb3 KS hnl
  go_wp2_with fail
  refine KM.out.mono ?_
  rintro e w4 ⟨NA, nc, rfl, -, hb4⟩
  have HB4 := Lib.hid (HB3.out.trans (hb4.mono HB3.out.size))
  clear hb4 KM
  go_wp2_with fail
  go_ret
  exact ⟨rfl, HB4.out⟩
end Ver
end Go.Proofs.YtgmnhdkdicgkcaaGreatDoor

namespace Go.Proofs.YtgmnhdkdicgkcaaGreatDoor
open Go.RowKit Go.Maps

namespace Ver
def zeroE : Ev := ⟨none, 0, [], none, 0, [], 0, 0⟩
end Ver
end Go.Proofs.YtgmnhdkdicgkcaaGreatDoor
