/- Parts of the proof, one behind the other: Plain: an edit that adds, taken back by dropping what it added.; The law VersionBack, walked. -/
import Derived.Test.YtgmnhdkdicgkcaaGreatDoorNsg08
namespace Go.Proofs.YtgmnhdkdicgkcaaGreatDoor

namespace Ver
theorem fits_more {n n' : Int} (h : n ≤ n') {pre : List Fi} {f : Fi} (hf : fits n pre f = true) : fits n' pre f = true := by
  unfold fits at hf ⊢
  rw [Bool.and_eq_true, Bool.and_eq_true, Bool.and_eq_true, decide_eq_true_eq] at hf ⊢
  exact ⟨⟨⟨hf.1.1.1, by omega⟩, hf.1.2⟩, hf.2⟩
theorem fitsAll_more {n n' : Int} (h : n ≤ n') : ∀ (r pre : List Fi), fitsAll n pre r = true → fitsAll n' pre r = true
  | [], _, _ => rfl
  | f :: r, pre, hf => by
    unfold fitsAll at hf ⊢
    rw [Bool.and_eq_true] at hf ⊢
    exact ⟨fits_more h hf.1, fitsAll_more h r _ hf.2⟩
theorem filter_ins {q : Fi → Bool} {f : Fi} (hf : q f = false) : ∀ l : List Fi, (ins f l).filter q = l.filter q
  | [] => by simp [ins, hf]
  | g :: r => by
    unfold ins
    split
    · rw [List.filter_cons_of_neg (by simp [hf])]
    · rw [List.filter_cons, List.filter_cons, filter_ins hf r]
theorem filter_insAll {q : Fi → Bool} : ∀ (add l : List Fi), (∀ f ∈ add, q f = false) → (insAll l add).filter q = l.filter q
  | [], _, _ => rfl
  | f :: r, l, h => by
    show (insAll (ins f l) r).filter q = _
    rw [filter_insAll r _ (fun g hg => h g (List.mem_cons_of_mem _ hg)), filter_ins (h f List.mem_cons_self)]
/-- Dropping numbers that are there, each once. -/
theorem dropAll_there {next : Int} : ∀ (ds : List Int) (l : List Fi), Good next l → ds.Nodup → (∀ n ∈ ds, ∃ f ∈ l, f.number = n) → dropAll ds l = some (l.filter fun f => !ds.contains f.number)
  | [], l, _, _, _ => by
    unfold dropAll
    congr 1
    symm
    rw [List.filter_eq_self]
    intro a _
    simp
  | n :: ds, l, hg, hd, hm => by
    obtain ⟨hn, hd2⟩ := List.nodup_cons.1 hd
    obtain ⟨f, hf, hfn⟩ := hm n List.mem_cons_self
    have hx : drop1 n l = some (l.eraseP (fun f => f.number == n)) := by
      unfold drop1
      rw [if_pos (List.any_eq_true.2 ⟨f, hf, by simpa using hfn⟩)]
    obtain ⟨g1, _, g3⟩ := drop1_good hg hx
    unfold dropAll
    rw [hx]
    simp only
    rw [dropAll_there ds _ g1 hd2 (fun m hm2 => by
      obtain ⟨f2, hf2, hfn2⟩ := hm m (List.mem_cons_of_mem _ hm2)
      refine ⟨f2, ?_, hfn2⟩
      rw [g3, List.mem_filter]
      refine ⟨hf2, ?_⟩
      have : m ≠ n := fun e => hn (e ▸ hm2)
      simp only [bne_iff_ne, ne_eq]
      omega), g3, List.filter_filter]
    congr 1
    refine List.filter_congr (fun a _ => ?_)
    rw [List.contains_cons]
    cases h1 : ds.contains a.number <;> cases h2 : (a.number == n) <;> simp [bne, h2]
/-- What was put in goes again. -/
theorem drop_insAll {next : Int} {l add : List Fi} (hg : Good next (insAll l add)) : dropAll (add.map Fi.number) (insAll l add) = some l := by
  have hp := insAll_perm add l
  have hd := (hp.pairwise_iff (fun {x y} h => h.symm)).1 hg.dif
  obtain ⟨_, h2, h3⟩ := List.pairwise_append.1 hd
  rw [dropAll_there _ _ hg (List.pairwise_map.2 h2) (fun n hn => by
    obtain ⟨f, hf, hfn⟩ := List.mem_map.1 hn
    exact ⟨f, hp.mem_iff.2 (List.mem_append_right _ hf), hfn⟩), filter_insAll _ _ (fun f hf => by
    have h4 : (add.map Fi.number).contains f.number = true := by
      rw [List.contains_iff_mem]
      exact List.mem_map_of_mem hf
    rw [h4]
    rfl)]
  congr 1
  rw [List.filter_eq_self]
  intro a ha
  rw [Bool.not_eq_true', ← Bool.not_eq_true, List.contains_iff_mem]
  intro hm
  obtain ⟨f, hf, hfn⟩ := List.mem_map.1 hm
  exact h3 a ha f hf hfn.symm
/-- An edit that adds, and what takes it back. -/
theorem apply_back {s s1 : Ss} {add : List Fi} {log next : Int} (h : apply s ⟨add, [], log, next⟩ = (0, s1)) : apply s1 ⟨[], add.map Fi.number, s1.log, s1.next⟩ = (0, ⟨s.files, s1.log, s1.next⟩) := by
  unfold apply at h
  split at h
  · simp at h
  · rename_i h0
    have hr : right s = true := by cases hq : right s with | true => rfl | false => exact absurd (.inl hq) h0
    have he : okE ⟨add, [], log, next⟩ = true := by cases hq : okE ⟨add, [], log, next⟩ with | true => rfl | false => exact absurd (.inr hq) h0
    simp only [dropAll] at h
    split at h
    · simp at h
    · split at h
      · simp at h
      · rename_i h1
        injection h with _ h
        subst h
        have h2 : s.log ≤ log := by
          rcases Int.lt_or_le log s.log with h3 | h3
          · exact absurd (.inl h3) h1
          · exact h3
        have h3 : s.next ≤ next := by
          rcases Int.lt_or_le next s.next with h3 | h3
          · exact absurd (.inr (.inl h3)) h1
          · exact h3
        have h4 : right ⟨insAll s.files add, log, next⟩ = true := by
          cases hq : right ⟨insAll s.files add, log, next⟩ with
          | true => rfl
          | false => exact absurd (.inr (.inr hq)) h1
        obtain ⟨g1, g2, g3, g4, g5, g6⟩ := right_good h4
        obtain ⟨r1, r2, _, _, _, _⟩ := right_good hr
        obtain ⟨⟨a1, a2, a3, a4, a5, a6⟩, b1, b2⟩ := okE_bd he
        simp only at g1 g2 g3 g4 g5 g6 a1 a2 a3 a4 a5 a6 b1 b2
        have hE : okE ⟨[], add.map Fi.number, log, next⟩ = true := by
          unfold okE
          rw [Bool.and_eq_true, Bool.and_eq_true, decide_eq_true_eq, List.all_eq_true, List.all_eq_true]
          refine ⟨⟨by simp, by simpa using a1, a3, a4, a5, a6⟩, (fun _ hx => by cases hx), fun n hn => ?_⟩
          obtain ⟨f, hf, rfl⟩ := List.mem_map.1 hn
          have := okF_bd (b1 f hf)
          exact decide_eq_true ⟨this.1, this.2.1⟩
        have hR : right ⟨s.files, log, next⟩ = true := by
          unfold right at hr ⊢
          rw [Bool.and_eq_true, decide_eq_true_eq] at hr ⊢
          exact ⟨⟨hr.1.1, g3, g4, g5, g6⟩, fitsAll_more h3 _ _ hr.2⟩
        have hD := drop_insAll g1
        unfold apply
        rw [if_neg (by simp [h4, hE])]
        simp only [hD]
        rw [if_neg (by simp only [List.length_nil]; omega), if_neg]
        · rfl
        · rintro (h5 | h5 | h5)
          · omega
          · omega
          · have h6 : insAll s.files [] = s.files := rfl
            rw [h6, hR] at h5
            cases h5
end Ver
end Go.Proofs.YtgmnhdkdicgkcaaGreatDoor

namespace Go.Proofs.YtgmnhdkdicgkcaaGreatDoor
open Go.RowKit Go.Maps

namespace Ver
set_option maxHeartbeats 4000000 in
set_option maxRecDepth 400000 in
theorem versionBack_walk (sA : Option Addr) (sc : Nat) (sl : List Vf) (slog snext : Int) (e : Ev) (w : World) (hs : RdV w w.heap.size sA sl) (hsl : sl.length ≤ 9223372036854775807) (hsb : ∀ v ∈ sl, v.first.length ≤ 9223372036854775807 ∧ v.last.length ≤ 9223372036854775807)
    (h : EvOk w w.heap.size e) (hl : e.add.length ≤ 9223372036854775807) (hd : e.drop.length ≤ 9223372036854775807) (hb : ∀ v ∈ e.add, v.first.length ≤ 9223372036854775807 ∧ v.last.length ≤ 9223372036854775807) (ht : Tab w) :
    Calls Tryz.prog 4 #[.agg #[.slice sA sl.length sc, .int .i64 slog, .int .i64 snext], e.val] w fun r w' => r = .returned (.bool true) ∧ Below w.heap.size w w' := by
  obtain ⟨W, hW⟩ : ∃ W, W = (w.alloc (.cells #[.slice sA sl.length sc, .int .i64 slog, .int .i64 snext] 24)).alloc e.obj := ⟨_, rfl⟩
  have hbw : Below w.heap.size w W := by rw [hW]; exact ((Below.refl _ _).alloc (Nat.le_refl _) _).alloc (by simp) _
  have hx0 : W.heap[w.heap.size]? = some (.cells #[.slice sA sl.length sc, .int .i64 slog, .int .i64 snext] 24) := by
    rw [hW, Below.heap_alloc _ _ _ (by simp)]
    exact heap_alloc_new w _
  have hx1 : W.heap[w.heap.size + 1]? = some e.obj := by
    rw [hW]
    have := heap_alloc_new (w.alloc (.cells #[.slice sA sl.length sc, .int .i64 slog, .int .i64 snext] 24)) e.obj
    simpa using this
  have KA := Lib.hid (awake_any W (ht.below hbw))
  have HS : Hid (∀ X, Below w.heap.size w X → RdV X X.heap.size sA sl) := Lib.hid (fun X hX => hs.keep hX)
  have HE : Hid (∀ X, Below w.heap.size w X → EvOk X X.heap.size e) := Lib.hid (fun X hX => h.keep hX)
  have KF1 : Hid (∀ X, Below w.heap.size w X → Calls Tryz.prog 9 #[.slice sA sl.length sc] X fun r w' => r = .returned (.bool (fewV sl)) ∧ w' = X) := Lib.hid (fun X hX => few_any sA sc sl X (hs.keep hX) hsl hsb)
  have KF2 : Hid (∀ X, Below w.heap.size w X → Calls Tryz.prog 10 #[e.val] X fun r w' => r = .returned (.bool (fewV e.add && decide (e.drop.length ≤ 100))) ∧ Below X.heap.size X w') := Lib.hid (fun X hX => fewEdit_any e X (h.keep hX) hl hd hb)
  obtain ⟨f1, hf1⟩ : ∃ f1, f1 = fewV sl := ⟨_, rfl⟩
  obtain ⟨f2, hf2⟩ : ∃ f2, f2 = (fewV e.add && decide (e.drop.length ≤ 100)) := ⟨_, rfl⟩
  have HF : Hid (f1 = true → f2 = true → sl.length ≤ 100 ∧ e.add.length ≤ 100 ∧ e.drop.length ≤ 100) := Lib.hid (fun g1 g2 => by
    rw [hf1] at g1
    rw [hf2, Bool.and_eq_true] at g2
    exact ⟨fewV_len g1, fewV_len g2.1, of_decide_eq_true g2.2⟩)
  have KE : Hid (f1 = true → f2 = true → ∀ X, Below w.heap.size w X → Calls Tryz.prog 16 #[e.val] X (SaysEnc X e.ed)) := Lib.hid (fun g1 g2 X hX => encode_any e X (HE.out X hX) (by have := HF.out g1 g2; omega) (by have := HF.out g1 g2; omega))
  rw [← hf1] at KF1
  rw [← hf2] at KF2
  have HBW := Lib.hid hbw
  have HW := Lib.hid hW
  obtain ⟨EA, ec, add, DA, dc, drop, log, next⟩ := e
  obtain ⟨ed, hed⟩ : ∃ ed, ed = (⟨EA, ec, add, DA, dc, drop, log, next⟩ : Ev).ed := ⟨_, rfl⟩
  have HED := Lib.hid hed
  rw [← hed] at KE
  simp only [Ev.val, Ev.obj] at *
  have HXS : Hid (∀ X, Below W.heap.size W X → (X.cell? ⟨w.heap.size, 0, none⟩ = some (.slice sA sl.length sc) ∧ X.cell? ⟨w.heap.size, 1, none⟩ = some (.int .i64 slog) ∧ X.cell? ⟨w.heap.size, 2, none⟩ = some (.int .i64 snext)) ∧ X.cell? ⟨w.heap.size + 1, 0, none⟩ = some (.slice EA add.length ec) ∧ X.cell? ⟨w.heap.size + 1, 1, none⟩ = some (.slice DA drop.length dc) ∧ X.cell? ⟨w.heap.size + 1, 2, none⟩ = some (.int .i64 log) ∧ X.cell? ⟨w.heap.size + 1, 3, none⟩ = some (.int .i64 next)) := Lib.hid (fun X hX => by
    have h0 := (hX.block _ (Array.getElem?_eq_some_iff.1 hx0).1).trans hx0
    have h1 := (hX.block _ (Array.getElem?_eq_some_iff.1 hx1).1).trans hx1
    exact ⟨⟨by rw [cell_of_row X _ 0 _ _ (0, 0) h0]; rfl, by rw [cell_of_row X _ 1 _ _ (0, 0) h0]; rfl, by rw [cell_of_row X _ 2 _ _ (0, 0) h0]; rfl⟩, by rw [cell_of_row X _ 0 _ _ (0, 0) h1]; rfl, by rw [cell_of_row X _ 1 _ _ (0, 0) h1]; rfl, by rw [cell_of_row X _ 2 _ _ (0, 0) h1]; rfl, by rw [cell_of_row X _ 3 _ _ (0, 0) h1]; rfl⟩)
  have HBX : Hid (W.heap[w.heap.size]? = some (.cells #[.slice sA sl.length sc, .int .i64 slog, .int .i64 snext] 24) ∧ W.heap[w.heap.size + 1]? = some (.cells #[.slice EA add.length ec, .slice DA drop.length dc, .int .i64 log, .int .i64 next] 27)) := Lib.hid ⟨hx0, hx1⟩
  rw [hW] at KA
  clear hs hsl hsb h hl hd hb ht hbw hx0 hx1 hf1 hf2 hW hed
  go_enter Tryz.func4, Tryz.ntmps4
  go_wp2_with fail
  refine KA.out.mono ?_
  rw [← HW.out]
  rintro r X1 ⟨rfl, hb1⟩
  dsimp only
  have HB1 := Lib.hid hb1
  obtain ⟨⟨s0, s1, s2⟩, e0, e1, e2, e3⟩ := HXS.out X1 HB1.out
  have K1 := Lib.hid (KF1.out X1 (HBW.out.trans (HB1.out.mono HBW.out.size)))
  clear hb1 KA KF1
  go_wp2_with fail
  refine K1.out.mono ?_
  rintro r X2 ⟨rfl, rfl⟩
  dsimp only
  clear K1
  rcases f1 with _ | _
  · go_wp2_with fail
    go_ret
    exact ⟨rfl, HBW.out.trans (HB1.out.mono HBW.out.size)⟩
  have K2 := Lib.hid (KF2.out X2 (HBW.out.trans (HB1.out.mono HBW.out.size)))
  clear KF2
  go_wp2_with fail
  refine K2.out.mono ?_
  rintro r X3 ⟨rfl, hb3⟩
  dsimp only
  have HB3 := Lib.hid (HB1.out.trans (hb3.mono HB1.out.size))
  clear s0 s1 s2 e0 e1 e2 e3 hb3 K2
  obtain ⟨⟨s0, s1, s2⟩, e0, e1, e2, e3⟩ := HXS.out X3 HB3.out
  have HW3 := Lib.hid (HBW.out.trans (HB3.out.mono HBW.out.size))
  rcases f2 with _ | _
  · go_wp2_with fail
    go_ret
    exact ⟨rfl, HW3.out⟩
  have HLN := Lib.hid (HF.out (by trivial) (by trivial))
  have K3 := Lib.hid (KE.out (by trivial) (by trivial) X3 HW3.out)
  clear HF KE
  go_wp2_with fail
  refine K3.out.mono ?_
  rintro r X4 ⟨hb4, ⟨hok, rfl⟩ | ⟨hok, X1, x1, rfl, ho1⟩⟩
  · have HB4 := Lib.hid (HW3.out.trans (hb4.mono HW3.out.size))
    clear hb4 s0 s1 s2 e0 e1 e2 e3
    go_wp2_with fail
    go_ret
    exact ⟨rfl, HB4.out⟩
  have HW4 := Lib.hid (HW3.out.trans (hb4.mono HW3.out.size))
  have HB4 := Lib.hid (HB3.out.trans (hb4.mono HB3.out.size))
  have HEN : Hid (dec (enc ed) = some ed) := Lib.hid (dec_enc hok)
  obtain ⟨bb, hbb⟩ : ∃ bb, bb = enc ed := ⟨_, rfl⟩
  have HLB : Hid (bb.length ≤ 70368744177664) := Lib.hid (by rw [hbb]; exact enc_len hok)
  rw [← hbb] at ho1 HEN ⊢
  have HBB := Lib.hid hbb
  have HOK := Lib.hid hok
  have KD := Lib.hid (decode_any X1 x1 bb X4 ho1.rd (by have := HLB.out; omega) ho1.cap ho1.cap_le)
  rw [HEN.out] at KD
  have HR1 := Lib.hid ho1.rd
  clear hb4 ho1 hbb hok K3 s0 s1 s2 e0 e1 e2 e3
  go_wp2_with fail
  refine KD.out.mono ?_
  rintro r X5 ⟨hb5, y, rfl, hye, hya, hyd⟩
  dsimp only
  obtain ⟨V5, hV5⟩ : ∃ V5, V5 = X5.alloc y.obj := ⟨_, rfl⟩
  have hbV : Below X5.heap.size X5 V5 := by rw [hV5]; exact (Below.refl _ _).alloc (Nat.le_refl _) _
  have hb45 : Below X4.heap.size X4 V5 := hb5.trans (hbV.mono hb5.size)
  have HW5 := Lib.hid (HW4.out.trans (hb45.mono HW4.out.size))
  have HB5 := Lib.hid (HB4.out.trans (hb45.mono HB4.out.size))
  have HR15 := Lib.hid ((HR1.out.below hb45 (Nat.le_refl _)).more hb45.size)
  have HX5 : Hid (V5.heap[X5.heap.size]? = some y.obj) := Lib.hid (by rw [hV5]; exact heap_alloc_new X5 _)
  have hyl : y.add.length ≤ 1000000 ∧ y.drop.length ≤ 1000000 := by
    have h1 := hye.trans HED.out
    have h2 := congrArg (fun e : Ed => e.add.length) h1
    have h3 := congrArg (fun e : Ed => e.drop.length) h1
    simp only [Ev.ed, List.length_map] at h2 h3
    have := HLN.out
    omega
  have KE5 := Lib.hid (encode_any y V5 ((⟨hya.rd, hyd.rd⟩ : EvOk X5 X5.heap.size y).keep hbV) hyl.1 hyl.2)
  rw [hye] at KE5
  have hx5 := HX5.out
  clear hb5 hbV hb45 hye hya hyd hyl KD HR1
  obtain ⟨YA, yc, yadd, YDA, ydc, ydrop, ylog, ynext⟩ := y
  simp only [Ev.val, Ev.obj] at KE5 hV5 hx5 ⊢
  obtain ⟨c0, c1, c2, c3⟩ : V5.cell? ⟨X5.heap.size, 0, none⟩ = some (.slice YA yadd.length yc) ∧ V5.cell? ⟨X5.heap.size, 1, none⟩ = some (.slice YDA ydrop.length ydc) ∧ V5.cell? ⟨X5.heap.size, 2, none⟩ = some (.int .i64 ylog) ∧ V5.cell? ⟨X5.heap.size, 3, none⟩ = some (.int .i64 ynext) := ⟨by rw [cell_of_row V5 _ 0 _ _ (0, 0) hx5]; rfl, by rw [cell_of_row V5 _ 1 _ _ (0, 0) hx5]; rfl, by rw [cell_of_row V5 _ 2 _ _ (0, 0) hx5]; rfl, by rw [cell_of_row V5 _ 3 _ _ (0, 0) hx5]; rfl⟩
  have HV5 := Lib.hid hV5
  rw [hV5] at KE5 c0 c1 c2 c3
  clear hx5 hV5 HX5
  go_wp2_with fail
  refine KE5.out.mono ?_
  rw [← HV5.out]
  rintro r X6 ⟨hb6, ⟨hno, rfl⟩ | ⟨_, X2, x2, rfl, ho2⟩⟩
  · exact absurd (hno.symm.trans HOK.out) (by decide)
  rw [← HBB.out] at ho2 ⊢
  dsimp only
  have HW6 := Lib.hid (HW5.out.trans (hb6.mono HW5.out.size))
  have HB6 := Lib.hid (HB5.out.trans (hb6.mono HB5.out.size))
  obtain ⟨SX, hSX⟩ : ∃ SX, (⟨bb.toArray⟩ : ByteArray) = SX := ⟨_, rfl⟩
  have z1 : (convert 37 9 (.slice X1 bb.length x1)).run Tryz.prog X6 = .ok (.string SX) X6 := strB_to ((HR15.out.below hb6 (Nat.le_refl _)).more hb6.size) hSX
  have z2 : (convert 37 9 (.slice X2 bb.length x2)).run Tryz.prog X6 = .ok (.string SX) X6 := strB_to ho2.rd hSX
  have b1 : (SX.toList == SX.toList) = true := by simp
  have b2 : (SX.toList != SX.toList) = false := by simp
  have hx6 := (HB6.out.block _ (Array.getElem?_eq_some_iff.1 HBX.out.2).1).trans HBX.out.2
  have hx6s := (HB6.out.block _ (Array.getElem?_eq_some_iff.1 HBX.out.1).1).trans HBX.out.1
  have f1 := frozen_of_row X6 (w.heap.size + 1) 1 _ _ hx6
  have g1 : X6.cell? ⟨w.heap.size + 1, 1, none⟩ = some (.slice DA drop.length dc) := by rw [cell_of_row X6 _ 1 _ _ (0, 0) hx6]; rfl
  obtain ⟨V7, hV7⟩ : ∃ V7, V7 = X6.setCell ⟨w.heap.size + 1, 1, none⟩ (.slice none 0 0) := ⟨_, rfl⟩
  have HX7 : Hid (V7.heap[w.heap.size + 1]? = some (.cells #[.slice EA add.length ec, .slice none 0 0, .int .i64 log, .int .i64 next] 27)) := Lib.hid (by
    rw [hV7]
    have := heap_setCell_same X6 (w.heap.size + 1) 1 _ _ (.slice none 0 0) hx6
    simpa using this)
  have HX7s : Hid (V7.heap[w.heap.size]? = some (.cells #[.slice sA sl.length sc, .int .i64 slog, .int .i64 snext] 24)) := Lib.hid (by
    rw [hV7]
    exact (Below.heap_setCell X6 _ _ _ (by simp)).trans hx6s)
  have HW7 : Hid (Below w.heap.size w V7) := Lib.hid (by rw [hV7]; exact HW6.out.setCell (by simp) _)
  have HXT : Hid (∀ X, Below V7.heap.size V7 X → (X.cell? ⟨w.heap.size, 0, none⟩ = some (.slice sA sl.length sc) ∧ X.cell? ⟨w.heap.size, 1, none⟩ = some (.int .i64 slog) ∧ X.cell? ⟨w.heap.size, 2, none⟩ = some (.int .i64 snext)) ∧ X.cell? ⟨w.heap.size + 1, 0, none⟩ = some (.slice EA add.length ec) ∧ X.cell? ⟨w.heap.size + 1, 1, none⟩ = some (.slice none 0 0) ∧ X.cell? ⟨w.heap.size + 1, 2, none⟩ = some (.int .i64 log) ∧ X.cell? ⟨w.heap.size + 1, 3, none⟩ = some (.int .i64 next)) := Lib.hid (fun X hX => by
    have h0 := (hX.block _ (Array.getElem?_eq_some_iff.1 HX7s.out).1).trans HX7s.out
    have h1 := (hX.block _ (Array.getElem?_eq_some_iff.1 HX7.out).1).trans HX7.out
    exact ⟨⟨by rw [cell_of_row X _ 0 _ _ (0, 0) h0]; rfl, by rw [cell_of_row X _ 1 _ _ (0, 0) h0]; rfl, by rw [cell_of_row X _ 2 _ _ (0, 0) h0]; rfl⟩, by rw [cell_of_row X _ 0 _ _ (0, 0) h1]; rfl, by rw [cell_of_row X _ 1 _ _ (0, 0) h1]; rfl, by rw [cell_of_row X _ 2 _ _ (0, 0) h1]; rfl, by rw [cell_of_row X _ 3 _ _ (0, 0) h1]; rfl⟩)
  obtain ⟨p, hp⟩ : ∃ p, p = apply ⟨sl.map Vf.fi, slog, snext⟩ ⟨add.map Vf.fi, [], log, next⟩ := ⟨_, rfl⟩
  have HP := Lib.hid hp
  have K7 : Hid (Calls Tryz.prog 11 #[.agg #[.slice sA sl.length sc, .int .i64 slog, .int .i64 snext], .agg #[.slice EA add.length ec, .slice none 0 0, .int .i64 log, .int .i64 next]] V7 (SaysAp V7 p)) := Lib.hid (by
    rw [hp]
    have hln := HLN.out
    exact apply_any sA sc sl slog snext ⟨EA, ec, add, none, 0, [], log, next⟩ V7 (HS.out V7 HW7.out) ⟨(HE.out V7 HW7.out).add, RdS.nil⟩ (by omega) (by simp only; omega) (by simp))
  have HV7 := Lib.hid hV7
  obtain ⟨⟨s0, s1, s2⟩, e0, e1, e2, e3⟩ := HXT.out V7 (Below.refl _ _)
  rw [hV7] at s0 s1 s2 e0 e1 e2 e3 K7
  clear hb6 ho2 KE5 HXS HR15 hx6 hx6s hSX hV7 hp c0 c1 c2 c3 HEN HLB
  go_wp2_with fail
  refine K7.out.mono ?_
  rw [← HV7.out]
  rintro r x8 ⟨hb8, A, c, l, rfl, hlf, how⟩
  try simp only at hlf
  dsimp only
  obtain ⟨pc, pf, pl, pn⟩ := p
  try simp only at hlf
  try simp only at HP
  try simp only
  obtain ⟨X8, hX8⟩ : ∃ X8, X8 = x8.alloc (.cells #[.slice A l.length c, .int .i64 pl, .int .i64 pn] 24) := ⟨_, rfl⟩
  have hb88 : Below x8.heap.size x8 X8 := by rw [hX8]; exact (Below.refl _ _).alloc (Nat.le_refl _) _
  have hb78 : Below V7.heap.size V7 X8 := hb8.trans (hb88.mono hb8.size)
  have HW8 := Lib.hid (HW7.out.trans (hb78.mono HW7.out.size))
  have HB78 := Lib.hid hb78
  have HR8 := Lib.hid (how.rd.keep hb88)
  have HX8 : Hid (X8.heap[x8.heap.size]? = some (.cells #[.slice A l.length c, .int .i64 pl, .int .i64 pn] 24)) := Lib.hid (by rw [hX8]; exact heap_alloc_new x8 _)
  have HLF := Lib.hid hlf
  have HX8e := Lib.hid hX8
  clear hb8 hb88 hb78 how hlf K7 hX8 s0 s1 s2 e0 e1 e2 e3
  by_cases hpc : pc = 0
  rotate_left
  · have q1 : ((pc : Int) == 0) = false := by simp [hpc]
    have q2 : ((pc : Int) != 0) = true := by simp [hpc]
    go_wp2_with fail
    go_ret
    rw [← HX8e.out]
    exact ⟨rfl, HW8.out⟩
  subst hpc
  have HYS : Hid (∀ X, Below X8.heap.size X8 X → (X.cell? ⟨w.heap.size, 0, none⟩ = some (.slice sA sl.length sc) ∧ X.cell? ⟨w.heap.size + 1, 0, none⟩ = some (.slice EA add.length ec)) ∧ X.cell? ⟨x8.heap.size, 0, none⟩ = some (.slice A l.length c) ∧ X.cell? ⟨x8.heap.size, 1, none⟩ = some (.int .i64 pl) ∧ X.cell? ⟨x8.heap.size, 2, none⟩ = some (.int .i64 pn)) := Lib.hid (fun X hX => by
    have h0 := (hX.block _ (Array.getElem?_eq_some_iff.1 HX8.out).1).trans HX8.out
    have h1 := HXT.out X (HB78.out.trans (hX.mono HB78.out.size))
    exact ⟨⟨h1.1.1, h1.2.1⟩, by rw [cell_of_row X _ 0 _ _ (0, 0) h0]; rfl, by rw [cell_of_row X _ 1 _ _ (0, 0) h0]; rfl, by rw [cell_of_row X _ 2 _ _ (0, 0) h0]; rfl⟩)
  have HLA := Lib.hid HLN.out.2.1
  have HLS := Lib.hid HLN.out.1
  have HLL : Hid (l.length ≤ 1000000) := Lib.hid (by
    have h1 := congrArg List.length HLF.out
    have h2 := apply_len ⟨sl.map Vf.fi, slog, snext⟩ ⟨add.map Vf.fi, [], log, next⟩
    rw [← HP.out, ← h1, List.length_map] at h2
    exact h2)
  clear HXT HX7 HX7s HB78 HX8 HLN HED HBX HV5 HV7 HBB HOK
  have q1 : ((0 : Int) == 0) = true := by rfl
  have q2 : ((0 : Int) != 0) = false := by rfl
  have HOW0 : Hid (OwnS Sto.I1 1 X8 X8.heap.size 3 none 0 ([] : List Int)) := Lib.hid (OwnS.nil _ _ _)
  go_wp2_with fail
  rw [← HX8e.out]
  clear q1 q2
  go_loopw [15, 16] (fun o i wr => ∃ (k c' : Nat) (A' : Option Addr) (L : List Int), k ≤ add.length ∧ i = .int .i64 (k : Int) ∧ o = .slice A' L.length c' ∧ Hid (L = ((add.take k).map Vf.fi).map Fi.number) ∧ Hid (L.length = k) ∧ Hid (OwnS Sto.I1 1 wr X8.heap.size 3 A' c' L) ∧ Hid (Below X8.heap.size X8 wr)) (fun _ i _ => add.length - (intOf i).toNat)
  case atStart => exact ⟨0, 0, none, [], by omega, rfl, rfl, Lib.hid (by simp), Lib.hid rfl, HOW0, Lib.hid (Below.refl _ _)⟩
  case round =>
    obtain ⟨k, c', A', L, hk, rfl, rfl, HL, HLk, HOL, HBR⟩ := hrel
    have hla := HLA.out
    obtain ⟨⟨s0, e0⟩, y0, y1, y2⟩ := HYS.out wr HBR.out
    have HWR := Lib.hid (HW8.out.trans (HBR.out.mono HW8.out.size))
    by_cases hlt : k < add.length
    · have hlt' : (k : Int) < (add.length : Int) := by omega
      have hk0 : (0 : Int) ≤ (k : Int) := by omega
      obtain ⟨b, off, hA, hbb, hcell, _⟩ := (HE.out wr HWR.out).add.cell hlt
      have HTK : Hid (add.take (k + 1) = add.take k ++ [add[k]]) := Lib.hid (List.take_succ_eq_append_getElem hlt)
      obtain ⟨v, hv⟩ : ∃ v, v = add[k] := ⟨_, rfl⟩
      rw [← hv] at hcell HTK
      have c0 := hcell 0 _ rfl
      rw [Nat.add_zero] at c0
      obtain ⟨nu, lv, FA, fc, fi, LA, lc, la, lo, hi⟩ := v
      simp only at hA c0
      subst hA
      clear hcell hv
      have hbr := HBR.out.size
      have hlx : (L.length + 1) * 8 ≤ 140737488355328 ∧ L.length + 1 ≤ 9223372036854775807 := by have := HLk.out; omega
      have HLX := Lib.hid hlx
      clear hlx
      go_wp2_with (at_builtin; (refine wpList_append_s _ rfl _ _ intT rfl X8.heap.size A' c' L rfl (HOL.out.alloc _) (wr.heap.size + 1) (some ⟨wr.heap.size, 0, none⟩) 1 1 [nu] rfl rfl (rd_intN wr nu rfl) HLX.out.1 HLX.out.2 (by simp; omega) ?_; intro A3 c3 L3 w8 hl3 ho3 hg3 hat3))
      have hl3 : L3 = L ++ [nu] := hl3
      subst hl3
      have HBN : Hid (Below X8.heap.size X8 w8) := Lib.hid ((HBR.out.alloc hbr _).grown hg3 (by simp; omega) (fun g e => (HOL.out.blk_ge g e).1))
      exact ⟨⟨k + 1, c3, A3, L ++ [nu], hlt, by simp, by simp, Lib.hid (by rw [HTK.out, List.map_append, List.map_append, HL.out]; rfl), Lib.hid (by have := HLk.out; simp; omega), Lib.hid ho3, HBN⟩, by simp only [intOf]; omega⟩
    · have hke : k = add.length := by omega
      subst hke
      have HAB : Hid (apply ⟨l.map Vf.fi, pl, pn⟩ ⟨[], L, pl, pn⟩ = (0, ⟨sl.map Vf.fi, pl, pn⟩)) := Lib.hid (by
        have h1 := apply_back HP.out.symm
        rw [HL.out, List.take_length, HLF.out]
        exact h1)
      have hlk := HLk.out
      have KB := Lib.hid (apply_any A c l pl pn ⟨none, 0, [], A', c', L, pl, pn⟩ wr (HR8.out.keep HBR.out) ⟨RdV.nil, HOL.out.rd⟩ HLL.out (by simp) (by show L.length ≤ 1000000; omega))
      have hev : (⟨none, 0, [], A', c', L, pl, pn⟩ : Ev).ed = ⟨[], L, pl, pn⟩ := rfl
      rw [hev, HAB.out] at KB
      simp only [Ev.val, List.length_nil] at KB
      clear hev hlk
      go_wp2_with fail
      refine KB.out.mono ?_
      rintro r x9 ⟨hb9, B, d, m, rfl, hmf, hom⟩
      simp only at hmf
      dsimp only
      obtain ⟨X9, hX9⟩ : ∃ X9, X9 = x9.alloc (.cells #[.slice B m.length d, .int .i64 pl, .int .i64 pn] 24) := ⟨_, rfl⟩
      have hb99 : Below x9.heap.size x9 X9 := by rw [hX9]; exact (Below.refl _ _).alloc (Nat.le_refl _) _
      have hbr9 : Below wr.heap.size wr X9 := hb9.trans (hb99.mono hb9.size)
      have HW9 := Lib.hid (HWR.out.trans (hbr9.mono HWR.out.size))
      have hml : m.length ≤ 1000000 := by
        have h1 := congrArg List.length hmf
        have h2 := HLS.out
        simp only [List.length_map] at h1
        omega
      have KS := Lib.hid (rsameFiles_any B sA d sc m sl X9 (hom.rd.keep hb99) (HS.out X9 HW9.out) hml)
      rw [hmf, fisE_refl] at KS
      have hx9 : X9.heap[x9.heap.size]? = some (.cells #[.slice B m.length d, .int .i64 pl, .int .i64 pn] 24) := by rw [hX9]; exact heap_alloc_new x9 _
      have u0 : X9.cell? ⟨x9.heap.size, 0, none⟩ = some (.slice B m.length d) := by rw [cell_of_row X9 _ 0 _ _ (0, 0) hx9]; rfl
      clear s0 e0 y0 y1 y2
      obtain ⟨⟨s0, e0⟩, y0, y1, y2⟩ := HYS.out X9 (HBR.out.trans (hbr9.mono HBR.out.size))
      have HX9e := Lib.hid hX9
      rw [hX9] at u0 s0 KS
      clear e0 y0 y1 y2 hb9 hb99 hbr9 hmf hom hml hx9 hX9 KB
      go_wp2_with fail
      refine KS.out.mono ?_
      rw [← HX9e.out]
      rintro r X10 ⟨rfl, hb10⟩
      dsimp only
      have HW10 := Lib.hid (HW9.out.trans (hb10.mono HW9.out.size))
      clear hb10 u0 s0 KS
      go_wp2_with fail
      go_ret
      exact ⟨rfl, HW10.out⟩
end Ver
end Go.Proofs.YtgmnhdkdicgkcaaGreatDoor
