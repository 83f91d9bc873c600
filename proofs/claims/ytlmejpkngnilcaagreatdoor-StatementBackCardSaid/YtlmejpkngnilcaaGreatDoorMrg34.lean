/- Parts of the proof, one behind the other: The contract of statement.sums: the closing amounts. -/
import Derived.Test.YtlmejpkngnilcaaGreatDoorMrg29
import Derived.Test.YtlmejpkngnilcaaGreatDoorMrg02
import Derived.RegionTactic
import Derived.RegionCalls
import Derived.Deep.RegionLaw
import Derived.Deep.RegionHeld
import Derived.Deep.RegionHeldLaw
namespace Go.Proofs.YtlmejpkngnilcaaGreatDoor
open Go.RowKit

theorem rdI_new (w : World) (x : Int) (T : TypeId) (g : Nat) (hg : g = w.heap.size) : RdI (w.alloc (.cells #[.int .i64 x] T)) (g + 1) (some ⟨g, 0, none⟩) [x] := by
  subst hg
  refine ⟨by simp [iv], fun _ => ⟨_, rfl, by simp, fun j u hu => ?_⟩⟩
  match j, hu with
  | 0, hu =>
    simp [iv] at hu; subst hu
    simp [Addr.add]
theorem keepcell {w w' : World} {row : Option Nat} (hg : w.grownBy w' row) {p : Addr} {v : Value} (h : w.cell? p = some v) (hp : p.block < w.heap.size) (hne : some p.block ≠ row) : w'.cell? p = some v :=
  (World.cell?_of_block (hg.block p.block hp hne)).trans h
theorem keeprd {w w' : World} {row : Option Nat} {g : Nat} {x : Int} (hg : w.grownBy w' row) (h : RdI w (g + 1) (some ⟨g, 0, none⟩) [x]) (hp : g < w.heap.size) (hne : some g ≠ row) : RdI w' (g + 1) (some ⟨g, 0, none⟩) [x] := by
  refine ⟨h.1, fun hn => ?_⟩
  obtain ⟨ad, e, hb, hc⟩ := h.2 hn
  injection e with e; subst e
  refine ⟨_, rfl, hb, fun j u hu => ?_⟩
  refine keepcell hg (hc j u hu) ?_ ?_
  · rw [block_of_add]; exact hp
  · rw [block_of_add]; exact hne
theorem blk_fresh {w : World} {base : Nat} {e : TypeId} {A : Option Addr} {c : Nat} {l : List Int} (h : OwnI w base e A c l) {g : Nat} (hg : w.heap.size ≤ g) : some g ≠ blk A := by
  intro e
  have := (h.blk_ge g e.symm).2
  omega
theorem ne_of5 {A1 A3 A5 : Option Addr} {n : Nat} (hat : blk A5 = blk A1 ∨ blk A5 = some n) (h13 : blk A1 ≠ blk A3) (h3 : some n ≠ blk A3) : blk A5 ≠ blk A3 := by
  rcases hat with h | h
  · rw [h]; exact h13
  · rw [h]; exact h3
theorem ne_of7 {w : World} {base : Nat} {e : TypeId} {A3 A5 A7 : Option Addr} {c : Nat} {l : List Int} {n : Nat} (ho : OwnI w base e A5 c l) (hn : w.heap.size ≤ n) (hat : blk A7 = blk A3 ∨ blk A7 = some n) (h53 : blk A5 ≠ blk A3) : blk A5 ≠ blk A7 := by
  rcases hat with h | h
  · rw [h]; exact h53
  · rw [h]; exact (blk_fresh ho hn).symm
/-- What holds between the two appends' allocations. -/
def F30 (w0 : World) (B n : Nat) (A1 A3 : Option Addr) (c1 c3 : Nat) (L1 L3 : List Int) (v : Int) (X : World) : Prop :=
  X.cell? ⟨n, 4, none⟩ = some (.int .i64 v) ∧ OwnI X B 2 A1 c1 L1 ∧ OwnI X B 2 A3 c3 L3 ∧ Below B w0 X ∧ n < X.heap.size ∧ B ≤ X.heap.size ∧ some n ≠ blk A1 ∧ (∀ g, n ≤ g → some g ≠ blk A3) ∧ (∀ g, n ≤ g → some g ≠ blk A1) ∧ blk A1 ≠ blk A3
section
variable {w0 : World} {B n : Nat} {A1 A3 A5 A7 : Option Addr} {c1 c3 c5 c7 : Nat} {L1 L3 L5 L7 : List Int} {v : Int} {X w1 w2 : World}
theorem F30.alloc (h : F30 w0 B n A1 A3 c1 c3 L1 L3 v X) (o : Obj) : F30 w0 B n A1 A3 c1 c3 L1 L3 v (X.alloc o) := by
  obtain ⟨h1, h2, h3, h4, h5, h6, h7⟩ := h
  exact ⟨(World.cell?_alloc_lt _ _ _ (by show n < _; exact h5)).trans h1, h2.alloc _, h3.alloc _, h4.alloc h6 _, by simp; omega, by simp; omega, h7⟩
theorem F30.drew (h : F30 w0 B n A1 A3 c1 c3 L1 L3 v X) : F30 w0 B n A1 A3 c1 c3 L1 L3 v X.drew := by
  obtain ⟨h1, h2, h3, h4, h5⟩ := h
  exact ⟨h1, h2, h3, h4.drew, h5⟩
/-- .. behind the first append. -/
def F31 (w0 : World) (B n : Nat) (A3 A5 : Option Addr) (c3 c5 : Nat) (L3 L5 : List Int) (w1 : World) : Prop :=
  OwnI w1 B 2 A5 c5 L5 ∧ OwnI w1 B 2 A3 c3 L3 ∧ Below B w0 w1 ∧ B ≤ w1.heap.size ∧ n < w1.heap.size ∧ blk A5 ≠ blk A3
theorem F31.alloc (h : F31 w0 B n A3 A5 c3 c5 L3 L5 w1) (o : Obj) : F31 w0 B n A3 A5 c3 c5 L3 L5 (w1.alloc o) := by
  obtain ⟨h1, h2, h3, h4, h5, h6⟩ := h
  exact ⟨h1.alloc _, h2.alloc _, h3.alloc h4 _, by simp; omega, by simp; omega, h6⟩
theorem F30.next (h : F30 w0 B n A1 A3 c1 c3 L1 L3 v X) (ho : OwnI w1 B 2 A5 c5 L5) (hg : X.grownBy w1 (blk A1)) (hat : blk A5 = blk A1 ∨ blk A5 = some X.heap.size) :
    w1.cell? ⟨n, 4, none⟩ = some (.int .i64 v) ∧ F31 w0 B n A3 A5 c3 c5 L3 L5 w1 := by
  obtain ⟨h1, h2, h3, h4, h5, h6, h7, h8, h9, h10⟩ := h
  have hb := below_grow h4 hg (fun g hg' => (h2.blk_ge g hg').1) h6
  have hs : X.heap.size ≤ w1.heap.size := hg.size
  exact ⟨keepcell hg h1 h5 h7, ho, h3.kept hg (.inr h10.symm), hb, by omega, by omega, ne_of5 hat h10 (h8 _ (by omega))⟩
theorem F31.next (h : F31 w0 B n A3 A5 c3 c5 L3 L5 w1) (ho : OwnI w2 B 2 A7 c7 L7) (hg : w1.grownBy w2 (blk A3)) (hat : blk A7 = blk A3 ∨ blk A7 = some w1.heap.size) :
    OwnI w2 B 2 A5 c5 L5 ∧ OwnI w2 B 2 A7 c7 L7 ∧ Below B w0 w2 ∧ blk A5 ≠ blk A7 := by
  obtain ⟨h1, h2, h3, h4, h5, h6⟩ := h
  exact ⟨h1.kept hg (.inr h6), ho, below_grow h3 hg (fun g hg' => (h2.blk_ge g hg').1) h4, ne_of7 h1 (Nat.le_refl _) hat h6⟩
end
theorem snoc_map {α : Type} (f : α → Int) {l : List α} {k : Nat} (h : k < l.length) : (l.take (k + 1)).map f = (l.take k).map f ++ [f l[k]] := by
  rw [List.take_succ_eq_append_getElem h, List.map_append]; rfl
theorem ownI_one (w : World) (base g : Nat) (x : Int) (h : w.heap[g]? = some (.cells #[.int .i64 x] 2)) (hb : base ≤ g) : OwnI w base 2 (some ⟨g, 0, none⟩) 1 [x] :=
  ⟨by simp [iv], .inr ⟨g, 1, #[.int .i64 x], rfl, hb, h, by simp, by unfold maxLen; omega, by simp, by simp [iv]⟩⟩
theorem ownI_form {w : World} {base : Nat} {A : Option Addr} {c : Nat} {l : List Int} (h : OwnI w base 2 A c l) (hl : 0 < l.length) : ∃ g, A = some ⟨g, 0, none⟩ ∧ g < w.heap.size ∧ HoldsI w g l := by
  obtain ⟨g, cap, hv, hg1, hlt⟩ := World.ownsRow.form h hl
  have hA : A = some ⟨g, 0, none⟩ := by injection hv
  subst hA
  refine ⟨g, rfl, hlt, fun k hk => ?_⟩
  obtain ⟨ad, h1, h2, h3⟩ := h.rd.cell hk
  injection h1 with h1; subst h1
  unfold Addr.add at h3
  split at h3
  · rename_i h0; subst h0; exact h3
  · simpa using h3
theorem start_facts (w : World) (o : Obj) (x y : Value) (T : TypeId) :
    (((w.alloc o).alloc (.cells #[x] T)).alloc (.cells #[y] T)).heap[w.heap.size + 1]? = some (.cells #[x] T) ∧ (((w.alloc o).alloc (.cells #[x] T)).alloc (.cells #[y] T)).heap[w.heap.size + 1 + 1]? = some (.cells #[y] T) ∧
      Below w.heap.size w (((w.alloc o).alloc (.cells #[x] T)).alloc (.cells #[y] T)) := by
  refine ⟨?_, ?_, (((Below.refl _ _).alloc (Nat.le_refl _) _).alloc (by simp) _).alloc (by simp; omega) _⟩
  · rw [Below.heap_alloc _ _ _ (by simp)]
    have := heap_alloc_new (w.alloc o) (.cells #[x] T)
    simpa using this
  · have := heap_alloc_new ((w.alloc o).alloc (.cells #[x] T)) (.cells #[y] T)
    simpa using this
theorem sumV_err {l : List Int} {a x : Int} (h : sumV l = .tuple #[.int .i64 a, .int .i64 x]) : x = 0 ∨ x = 1 ∨ x = 2 := by
  unfold sumV at h
  split at h
  · unfold toldV at h
    split at h
    · injection h with h; simp at h; omega
    · injection h with h; simp at h; omega
  · injection h with h; simp at h; omega
/-- What sums answers: of the two rows. -/
def SumsOf (O C : List Int) (e : Ending) : Prop := ∃ a x b y : Int, sumV O = .tuple #[.int .i64 a, .int .i64 x] ∧ sumV C = .tuple #[.int .i64 b, .int .i64 y] ∧
  ((x = 0 ∧ y = 0 ∧ e = .returned (.tuple #[.int .i64 a, .int .i64 b, .int .i64 0])) ∨ (¬ (x = 0 ∧ y = 0) ∧ ∃ m : Int, m ≠ 0 ∧ e = .returned (.tuple #[.int .i64 0, .int .i64 0, .int .i64 m])))
set_option maxHeartbeats 2000000 in
theorem sums_any (id fr to_ owed credit : Int) (A A2 : Option Addr) (c n2 c2 : Nat) (l : List Ln) (w : World) (h : RdL w w.heap.size A l) (hl : l.length ≤ 999) :
    Calls Tryz.prog 20 #[.agg #[.int .i64 id, .int .i64 fr, .int .i64 to_, .int .i64 owed, .int .i64 credit, .slice A l.length c, .slice A2 n2 c2]] w fun e w' => SumsOf (owed :: l.map Ln.owed) (credit :: l.map Ln.credit) e ∧ Below w.heap.size w w' := by
  go_enter Tryz.func20, Tryz.ntmps20
  go_wp2_with fail
  go_region
  all_goals
    go_wp2_with fail
    go_loopw [5, 6, 22] (fun v u i wr => ∃ (k : Nat) (A1 : Option Addr) (c1 : Nat) (L1 : List Int) (A3 : Option Addr) (c3 : Nat) (L3 : List Int), k ≤ l.length ∧ i = .int .i64 (k : Int) ∧ v = .slice A1 L1.length c1 ∧ u = .slice A3 L3.length c3 ∧ Hid (L1 = owed :: (l.take k).map Ln.owed) ∧ Hid (L3 = credit :: (l.take k).map Ln.credit) ∧ OwnI wr w.heap.size 2 A1 c1 L1 ∧ OwnI wr w.heap.size 2 A3 c3 L3 ∧ Hid (blk A1 ≠ blk A3) ∧ Below w.heap.size w wr) (fun _ _ i _ => l.length - (intOf i).toNat)
    case atStart =>
      first
        | (obtain ⟨s1, s2, s3⟩ := start_facts w (.cells #[.int .i64 id, .int .i64 fr, .int .i64 to_, .int .i64 owed, .int .i64 credit, .slice A l.length c, .slice A2 n2 c2] 25) (.int .i64 owed) (.int .i64 credit) 2
           exact ⟨0, some ⟨w.heap.size + 1, 0, none⟩, 1, [owed], some ⟨w.heap.size + 1 + 1, 0, none⟩, 1, [credit], by omega, rfl, rfl, rfl, Lib.hid rfl, Lib.hid rfl, ownI_one _ _ _ _ s1 (by omega), ownI_one _ _ _ _ s2 (by omega), Lib.hid (by simp [blk]), s3.drew⟩)
        | (obtain ⟨s1, s2, s3⟩ := start_facts w (.cells #[.int .i64 id, .int .i64 fr, .int .i64 to_, .int .i64 owed, .int .i64 credit, .slice A l.length c, .slice A2 n2 c2] 25) (.int .i64 credit) (.int .i64 owed) 2
           exact ⟨0, some ⟨w.heap.size + 1 + 1, 0, none⟩, 1, [owed], some ⟨w.heap.size + 1, 0, none⟩, 1, [credit], by omega, rfl, rfl, rfl, Lib.hid rfl, Lib.hid rfl, ownI_one _ _ _ _ s2 (by omega), ownI_one _ _ _ _ s1 (by omega), Lib.hid (by simp [blk]), s3.drew⟩)
    case round =>
      obtain ⟨k, A1, c1, L1, A3, c3, L3, hk, rfl, rfl, rfl, H1, H3, O1, O3, HN, HB⟩ := hrel
      by_cases hlt : k < l.length
      · obtain ⟨b, off, rfl, hb, d0, d1, d2, d3, d4⟩ := (h.below HB (Nat.le_refl _)).at_ hlt
        obtain ⟨x, hx⟩ : ∃ x, x = l[k] := ⟨_, rfl⟩
        rw [← hx] at d0 d1 d2 d3 d4
        have HX := Lib.hid hx; clear hx
        have hbl : b < wr.heap.size := Nat.lt_of_lt_of_le hb HB.size
        have hsz := HB.size
        have hL1 : L1.length ≤ 1000 := by rw [H1.out]; simp; omega
        have hL3 : L3.length ≤ 1000 := by rw [H3.out]; simp; omega
        have HO1 := Lib.hid O1; have HO3 := Lib.hid O3; have HBB := Lib.hid HB
        clear O1 O3 HB h
        have LC : Hid ((wr.alloc (.cells #[.int .i64 x.day, .int .i64 x.kind, .int .i64 x.ref, .int .i64 x.owed, .int .i64 x.credit] 51)).cell? ⟨wr.heap.size, 4, none⟩ = some (.int .i64 x.credit)) := Lib.hid (by
          simp)
        have FL : Hid (F30 w w.heap.size wr.heap.size A1 A3 c1 c3 L1 L3 x.credit (wr.alloc (.cells #[.int .i64 x.day, .int .i64 x.kind, .int .i64 x.ref, .int .i64 x.owed, .int .i64 x.credit] 51))) :=
          Lib.hid ⟨LC.out, HO1.out.alloc _, HO3.out.alloc _, HBB.out.alloc hsz _, by simp, by simp; omega, blk_fresh HO1.out (Nat.le_refl _), fun g hg => blk_fresh HO3.out hg, fun g hg => blk_fresh HO1.out hg, HN.out⟩
        go_wp2_with fail
        go_region_law? (first
          | (refine step_append_id _ (by rfl) (some 30) (by rfl) (.tmp 26) (.tmp 29) it (by rfl) w.heap.size A1 c1 L1 rfl (by exact HO1.out.alloc _ |>.alloc _) (wr.heap.size + 1 + 1) (some ⟨wr.heap.size + 1, 0, none⟩) 1 1 [x.owed] rfl rfl (by exact rdI_new _ _ _ _ (by simp)) (by simp; omega) (by simp; omega) ?_; intro A5 c5 L5 w1 hL5 ho5 hg5 hat5
             obtain ⟨i4, K5⟩ := F30.next (FL.out.alloc _).drew ho5 hg5 hat5
             have K5 := Lib.hid K5; have HL5 := Lib.hid hL5
             have hsz5 : w.heap.size ≤ w1.heap.size := K5.out.2.2.2.1
             clear hL5 ho5 hg5 hat5)
          | (refine step_append_id _ (by rfl) (some 30) (by rfl) (.tmp 26) (.tmp 29) it (by rfl) w.heap.size A1 c1 L1 rfl (by exact ((HO1.out.alloc _).alloc _).alloc _) (wr.heap.size + 1 + 1) (some ⟨wr.heap.size + 1, 0, none⟩) 1 1 [x.owed] rfl rfl (by exact (rdI_new _ _ _ _ (by simp)).alloc (by simp) _) (by simp; omega) (by simp; omega) ?_; intro A5 c5 L5 w1 hL5 ho5 hg5 hat5
             obtain ⟨i4, K5⟩ := F30.next ((FL.out.alloc _).alloc _).drew ho5 hg5 hat5
             have K5 := Lib.hid K5; have HL5 := Lib.hid hL5
             have RC : Hid (RdI w1 (wr.heap.size + 1 + 1 + 1) (some ⟨wr.heap.size + 1 + 1, 0, none⟩) [x.credit]) := Lib.hid (keeprd hg5 (rdI_new _ _ _ _ (by simp)) (by simp) (blk_fresh HO1.out (by omega)))
             have hsz5 : w.heap.size ≤ w1.heap.size := K5.out.2.2.2.1
             have hsz6 : wr.heap.size + 1 + 1 + 1 ≤ w1.heap.size := by have := hg5.size; simp at this; omega
             clear hL5 ho5 hg5 hat5)
          | (refine step_append_id _ (by rfl) (some 30) (by rfl) (.tmp 26) (.tmp 29) it (by rfl) w.heap.size A1 c1 L1 rfl (by exact ((HO1.out.alloc _).alloc _).alloc _) (wr.heap.size + 1 + 1 + 1) (some ⟨wr.heap.size + 1 + 1, 0, none⟩) 1 1 [x.owed] rfl rfl (by exact rdI_new _ _ _ _ (by simp)) (by simp; omega) (by simp; omega) ?_; intro A5 c5 L5 w1 hL5 ho5 hg5 hat5
             obtain ⟨i4, K5⟩ := F30.next ((FL.out.alloc _).alloc _).drew ho5 hg5 hat5
             have K5 := Lib.hid K5; have HL5 := Lib.hid hL5
             have RC : Hid (RdI w1 (wr.heap.size + 1 + 1) (some ⟨wr.heap.size + 1, 0, none⟩) [x.credit]) := Lib.hid (keeprd hg5 ((rdI_new _ _ _ _ (by simp)).alloc (by simp) _) (by simp <;> omega) (blk_fresh HO1.out (by omega)))
             have hsz5 : w.heap.size ≤ w1.heap.size := K5.out.2.2.2.1
             have hsz6 : wr.heap.size + 1 + 1 + 1 ≤ w1.heap.size := by have := hg5.size; simp at this; omega
             clear hL5 ho5 hg5 hat5)
          | (refine step_append_id _ (by rfl) (some 35) (by rfl) (.tmp 31) (.tmp 34) it (by rfl) w.heap.size A3 c3 L3 rfl (by exact K5.out.2.1) (wr.heap.size + 1 + 1 + 1) (some ⟨wr.heap.size + 1 + 1, 0, none⟩) 1 1 [x.credit] rfl rfl (by exact RC.out) (by simp; omega) (by exact hsz5) ?_; intro A7 c7 L7 w2 hL7 ho7 hg7 hat7
             have K7 := Lib.hid (F31.next K5.out ho7 hg7 hat7)
             have HL7 := Lib.hid hL7
             clear hL7 ho7 hg7 hat7)
          | (refine step_append_id _ (by rfl) (some 35) (by rfl) (.tmp 31) (.tmp 34) it (by rfl) w.heap.size A3 c3 L3 rfl (by exact K5.out.2.1) (wr.heap.size + 1 + 1) (some ⟨wr.heap.size + 1, 0, none⟩) 1 1 [x.credit] rfl rfl (by exact RC.out) (by simp; omega) (by exact hsz5) ?_; intro A7 c7 L7 w2 hL7 ho7 hg7 hat7
             have K7 := Lib.hid (F31.next K5.out ho7 hg7 hat7)
             have HL7 := Lib.hid hL7
             clear hL7 ho7 hg7 hat7)
          | (refine step_append_id _ (by rfl) (some 35) (by rfl) (.tmp 31) (.tmp 34) it (by rfl) w.heap.size A3 c3 L3 rfl (by exact K5.out.2.1.alloc _) (w1.heap.size + 1) (some ⟨w1.heap.size, 0, none⟩) 1 1 [x.credit] rfl rfl (by exact rdI_new _ _ _ _ (by simp)) (by simp; omega) (by simp; omega) ?_; intro A7 c7 L7 w2 hL7 ho7 hg7 hat7
             have K7 := Lib.hid (F31.next (K5.out.alloc _) ho7 hg7 hat7)
             have HL7 := Lib.hid hL7
             clear hL7 ho7 hg7 hat7))
        all_goals
          go_wp2_with fail
          go_round
          case rel => exact ⟨k + 1, A5, c5, L5, A7, c7, L7, by omega, by go_num, rfl, rfl, Lib.hid (by rw [HL5.out, H1.out, HX.out, snoc_map _ hlt]; rfl), Lib.hid (by rw [HL7.out, H3.out, HX.out, snoc_map _ hlt]; rfl), K7.out.1, K7.out.2.1, Lib.hid K7.out.2.2.2, K7.out.2.2.1⟩
          case measure => simp [intOf]; omega
      · have e1 := H1.out
        have e3 := H3.out
        rw [List.take_of_length_le (by omega)] at e1 e3
        obtain ⟨g1, rfl, q1, hh1⟩ := ownI_form O1 (by rw [e1]; simp)
        obtain ⟨g3, rfl, q3, hh3⟩ := ownI_form O3 (by rw [e3]; simp)
        obtain ⟨a, x, hax⟩ := sumV_form L1
        obtain ⟨b, y, hby⟩ := sumV_form L3
        have l1 : L1.length ≤ 1000 := by rw [e1]; simp; omega
        have l3 : L3.length ≤ 1000 := by rw [e3]; simp; omega
        have S1 := Lib.hid (fun w h => sum_any g1 c1 L1 l1 w h)
        have S3 := Lib.hid (fun w h => sum_any g3 c3 L3 l3 w h)
        rw [hax] at S1
        rw [hby] at S3
        have X3 := sumV_err hax; have Y3 := sumV_err hby
        have HX := Lib.hid hax; have HY := Lib.hid hby
        rw [e1] at HX; rw [e3] at HY
        have HH1 := Lib.hid hh1; have HH3 := Lib.hid hh3; have HBB := Lib.hid HB
        clear H1 H3 e1 e3 hax hby hh1 hh3 HB HN O1 O3 l1 l3 h
        rcases X3 with rfl | rfl | rfl <;> rcases Y3 with rfl | rfl | rfl
        all_goals
          go_wp2_with fail
          refine (S1.out _ HH1.out).mono ?_
          rintro e w1 ⟨rfl, hb1⟩
          go_wp2_with fail
          refine (S3.out _ (fun k hk => (hb1.cell (by show g3 < _; exact q3)).trans (HH3.out k hk))).mono ?_
          rintro e w2 ⟨rfl, hb2⟩
          go_wp2_with fail
          refine bodyPost_ret (results_tmp3 rfl _ _ _) rfl ?_
          refine ⟨⟨_, _, _, _, HX.out, HY.out, ?_⟩, (HBB.out.trans (hb1.mono HBB.out.size)).trans (hb2.mono (Nat.le_trans HBB.out.size hb1.size))⟩
          first
            | exact .inl ⟨rfl, rfl, rfl⟩
            | exact .inr ⟨by decide, _, by decide, rfl⟩
end Go.Proofs.YtlmejpkngnilcaaGreatDoor
