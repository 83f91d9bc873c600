/- Parts of the proof, one behind the other: What lies in a round of the reference's third loop; its callees. -/
import Derived.Test.YtgafionfojnieaaDoorMrg38
import Derived.Test.YtgafionfojnieaaDoorMrg37
import Derived.Test.YtgafionfojnieaaDoorMrg18
import Derived.Test.YtgafionfojnieaaDoorMrg23
namespace Go.Proofs.YtgafionfojnieaaDoor
open Go.RowKit

/-- The reference's block, or nothing. -/
theorem rblk_bytes (A : Option Addr) (c : Nat) (l : List Pv) (w : World) (h : RdPv w w.heap.size A l) (hln : l.length ≤ 1000000) (hsz : ∀ p ∈ l, p.k.length ≤ 100000 ∧ p.v.length ≤ 100000) :
    Calls Tryd.prog 25 #[.slice A l.length c, .int .i64 16] w fun e w' => ∃ A1 c1 x, e = .returned (.tuple #[.slice A1 (Tb.blkB 16 (l.map Pv.pr)).length c1, .int .i64 x]) ∧ Own w' w.heap.size 5 A1 c1 (Tb.blkB 16 (l.map Pv.pr)) ∧ Below w.heap.size w w' :=
  (rblkbuild_any 16 (by omega) A c l w h hln hsz).mono fun e w' h => by
    obtain ⟨hbe, ⟨hn, he⟩ | ⟨hy, A1, c1, he, ho⟩⟩ := h
    · have hn' : ¬ Blk.err 16 (l.map Pv.pr) = 0 := hn
      unfold Tb.blkB
      rw [if_neg hn']
      exact ⟨none, 0, _, he, Own.nil _ _ _, hbe⟩
    · have hy' : Blk.err 16 (l.map Pv.pr) = 0 := hy
      unfold Tb.blkB
      rw [if_pos hy']
      exact ⟨A1, c1, 0, he, ho, hbe⟩
/-- What was put out, and the index. -/
structure ER (w2 : World) (B : Nat) (OA : Option Addr) (OC : Nat) (out : List UInt8) (XA : Option Addr) (XC : Nat) (IX : List Pv) (wr : World) : Prop where
  out : Own wr B 5 OA OC out
  idx : OwnS Pv.cells 2 wr B 48 XA XC IX
  key : ∀ q ∈ IX, RdB w2 B q.kA q.k ∧ q.k.length ≤ q.kc ∧ q.kc ≤ 9223372036854775807
  val : ∀ q ∈ IX, Own wr B 5 q.vA q.vc q.v ∧ Off [blk OA, blk XA] (blk q.vA)
  dis : Off [blk XA] (blk OA)
  below : Below B w2 wr
  size : B ≤ wr.heap.size
section
variable {w2 wr w9 : World} {B : Nat} {OA XA : Option Addr} {OC XC : Nat} {out : List UInt8} {IX : List Pv}
theorem ER.call (h : ER w2 B OA OC out XA XC IX wr) (hb : Below wr.heap.size wr w9) : ER w2 B OA OC out XA XC IX w9 :=
  ⟨h.out.below hb, h.idx.below hb, h.key, fun q hq => ⟨(h.val q hq).1.below hb, (h.val q hq).2⟩, h.dis, h.below.trans (hb.mono h.size), Nat.le_trans h.size hb.size⟩
theorem ER.dis2 (h : ER w2 B OA OC out XA XC IX wr) : blk XA = none ∨ blk XA ≠ blk OA := by
  rcases hx : blk XA with _ | g
  · exact .inl rfl
  · refine .inr (fun e => h.dis g e.symm (by simp [hx]))
theorem ER.rdpv (h : ER w2 B OA OC out XA XC IX wr) : RdPv wr wr.heap.size XA IX :=
  ⟨h.idx.rd, fun q hq => ⟨((h.key q hq).1.below h.below (Nat.le_refl _)).more h.size, (h.val q hq).1.rd, (h.key q hq).2.1, (h.val q hq).1.cap, (h.key q hq).2.2, (h.val q hq).1.cap_le⟩⟩
/-- More is put out. -/
theorem ER.app_out (h : ER w2 B OA OC out XA XC IX wr) {A' : Option Addr} {c' : Nat} {L : List UInt8} (ho : Own w9 B 5 A' c' L) (hg : wr.grownBy w9 (blk OA)) (hat : blk A' = blk OA ∨ blk A' = some wr.heap.size) : ER w2 B A' c' L XA XC IX w9 := by
  refine ⟨ho, h.idx.kept hg h.dis2, h.key, fun q hq => ?_, fun g hgg hm => ?_, h.below.grown hg h.size (fun k hk => (h.out.blk_ge k hk).1), Nat.le_trans h.size hg.size⟩
  · obtain ⟨v1, v2⟩ := h.val q hq
    refine ⟨v1.kept hg (v2.ne (by simp)), v2.new (fun g hgg => (v1.blk_ge g hgg).2) (fun r hr => ?_)⟩
    simp only [List.mem_cons, List.not_mem_nil, or_false] at hr ⊢
    rcases hr with h1 | h1
    · rcases hat with h2 | h2
      · exact .inl (.inl (h1.trans h2))
      · exact .inr (h1.trans h2)
    · exact .inl (.inr h1)
  · rcases hat with h1 | h1
    · exact h.dis g (h1 ▸ hgg) hm
    · rw [h1] at hgg; injection hgg with hgg
      have hm' : some g = blk XA := by simpa using hm
      have := (h.idx.blk_ge g hm'.symm).2
      omega
/-- The index grows by a pair. -/
theorem ER.app_idx (h : ER w2 B OA OC out XA XC IX wr) {q : Pv} (hk : RdB w2 B q.kA q.k ∧ q.k.length ≤ q.kc ∧ q.kc ≤ 9223372036854775807) (hv : Own wr B 5 q.vA q.vc q.v) (hvo : Off [blk OA, blk XA] (blk q.vA))
    {A' : Option Addr} {c' : Nat} (ho : OwnS Pv.cells 2 w9 B 48 A' c' (IX ++ [q])) (hg : wr.grownBy w9 (blk XA)) (hat : blk A' = blk XA ∨ blk A' = some wr.heap.size) : ER w2 B OA OC out A' c' (IX ++ [q]) w9 := by
  have hd : blk OA = none ∨ blk OA ≠ blk XA := h.dis.ne (by simp)
  have hR : ∀ r ∈ ([blk OA, blk A'] : List (Option Nat)), r ∈ ([blk OA, blk XA] : List (Option Nat)) ∨ r = some wr.heap.size := fun r hr => by
    simp only [List.mem_cons, List.not_mem_nil, or_false] at hr ⊢
    rcases hr with h1 | h1
    · exact .inl (.inl h1)
    · rcases hat with h2 | h2
      · exact .inl (.inr (h1.trans h2))
      · exact .inr (h1.trans h2)
  refine ⟨h.out.kept hg hd, ho, fun p hp => ?_, fun p hp => ?_, fun g hgg hm => ?_, h.below.grown hg h.size (fun k hk => (h.idx.blk_ge k hk).1), Nat.le_trans h.size hg.size⟩
  · simp only [List.mem_append, List.mem_singleton] at hp
    rcases hp with h1 | h1
    · exact h.key p h1
    · rw [h1]; exact hk
  · simp only [List.mem_append, List.mem_singleton] at hp
    rcases hp with h1 | h1
    · obtain ⟨v1, v2⟩ := h.val p h1
      exact ⟨v1.kept hg (v2.ne (by simp)), v2.new (fun g hgg => (v1.blk_ge g hgg).2) hR⟩
    · rw [h1]; exact ⟨hv.kept hg (hvo.ne (by simp)), hvo.new (fun g hgg => (hv.blk_ge g hgg).2) hR⟩
  · have hm' : some g = blk A' := by simpa using hm
    rcases hat with h1 | h1
    · exact h.dis g hgg (by simp [hm'.trans h1])
    · have := hm'.trans h1
      injection this with this
      have := (h.out.blk_ge g hgg).2
      omega
end
theorem gv_fm (gs : List Gv) : gs.flatMap Gv.cells = gs.map (fun g => Value.slice g.A g.ps.length g.c) := by
  induction gs with
  | nil => rfl
  | cons a t ih => rw [List.flatMap_cons, ih]; rfl
/-- A row of rows: where each lies. -/
theorem GR.at_ {w wr : World} {base : Nat} {A : Option Addr} {c : Nat} {gs : List Gv} (h : GR w base A c gs wr) (hl : 0 < gs.length) : ∃ gA, A = some ⟨gA, 0, none⟩ ∧ gA < wr.heap.size ∧ ∀ k (hk : k < gs.length), wr.cell? ⟨gA, k, none⟩ = some (.slice gs[k].A gs[k].ps.length gs[k].c) := by
  obtain ⟨gA, cur, rfl, _, hlt, hh⟩ := h.row.form hl
  refine ⟨gA, rfl, hlt, fun k hk => ?_⟩
  have h1 := World.ownsRow.cells (h.row) (g := gA) rfl k (.slice gs[k].A gs[k].ps.length gs[k].c) (by
    rw [gv_fm, List.getElem?_map, List.getElem?_eq_getElem hk]; rfl)
  rw [← h1]
  congr 1
  unfold Addr.add
  split
  · rename_i h0; rw [h0]
  · simp
theorem GR.rdp {w wr : World} {base : Nat} {A : Option Addr} {c : Nat} {gs : List Gv} (h : GR w base A c gs wr) {g : Gv} (hg : g ∈ gs) : RdPv wr wr.heap.size g.A g.ps := ⟨(h.inn g hg).rd, fun q hq => (h.prs g hg q hq).ok⟩
/-- What lies in a round of the fourth loop: what was put out; blocks from n on stand as they did at w7. -/
structure FR (w7 : World) (B n : Nat) (OA : Option Addr) (OC : Nat) (out : List UInt8) (wr : World) : Prop where
  out : Own wr B 5 OA OC out
  keep : ∀ g, n ≤ g → g < w7.heap.size → wr.heap[g]? = w7.heap[g]?
  off : ∀ g, blk OA = some g → g < n ∨ w7.heap.size ≤ g
  below : Below B w7 wr
  base : B ≤ w7.heap.size
  size : w7.heap.size ≤ wr.heap.size
theorem FR.call {w7 wr w9 : World} {B n : Nat} {OA : Option Addr} {OC : Nat} {out : List UInt8} (h : FR w7 B n OA OC out wr) (hb : Below wr.heap.size wr w9) : FR w7 B n OA OC out w9 :=
  ⟨h.out.below hb, fun g h1 h2 => (hb.block g (Nat.lt_of_lt_of_le h2 h.size)).trans (h.keep g h1 h2), h.off, h.below.trans (hb.mono (Nat.le_trans h.base h.size)), h.base, Nat.le_trans h.size hb.size⟩
theorem FR.app {w7 wr w9 : World} {B n : Nat} {OA A' : Option Addr} {OC c' : Nat} {out L : List UInt8} (h : FR w7 B n OA OC out wr) (ho : Own w9 B 5 A' c' L) (hg : wr.grownBy w9 (blk OA)) (hat : blk A' = blk OA ∨ blk A' = some wr.heap.size) : FR w7 B n A' c' L w9 := by
  refine ⟨ho, fun g h1 h2 => (hg.block g (Nat.lt_of_lt_of_le h2 h.size) (fun e => ?_)).trans (h.keep g h1 h2), fun g hgg => ?_, h.below.grown hg (Nat.le_trans h.base h.size) (fun k hk => (h.out.blk_ge k hk).1), h.base, Nat.le_trans h.size hg.size⟩
  · rcases h.off g e.symm with h3 | h3 <;> omega
  · rcases hat with h1 | h1
    · exact h.off g (h1 ▸ hgg)
    · rw [h1] at hgg; injection hgg with hgg
      have := h.size
      exact .inr (by omega)
theorem FR.own {w7 wr : World} {B n c : Nat} {OA A : Option Addr} {OC base : Nat} {out l : List UInt8} (h : FR w7 B n OA OC out wr) (ho : Own w7 base 5 A c l) (hn : n ≤ base) : Own wr base 5 A c l :=
  own_keep ho (fun g hg => h.keep g (Nat.le_trans hn (ho.blk_ge g hg).1) (ho.blk_ge g hg).2)
/-- The three parts behind the blocks, in memory. -/
theorem four_cells {w7 w8 : World} {B n H b0 b1 b2 fc xc nc : Nat} {OA FA XB NA : Option Addr} {OC : Nat} {out BB XX N : List UInt8} (h : FR w7 B n OA OC out w8) (hn : n ≤ H) (hz : w7.heap.size = H + 2)
    (hp : w7.heap[H]? = some (.cells #[.slice FA BB.length fc, .slice XB XX.length xc, .slice NA N.length nc] 25)) (hk : w7.heap[H + 1]? = some (.cells #[.int .u8 70, .int .u8 73, .int .u8 90] 5))
    (o0 : Own w7 b0 5 FA fc BB) (o1 : Own w7 b1 5 XB xc XX) (o2 : Own w7 b2 5 NA nc N) (h0 : n ≤ b0) (h1 : n ≤ b1) (h2 : n ≤ b2) (k : Nat) (hlt : k < 3) :
    ∃ d : UInt8 × Bs, [((70, ⟨FA, fc, BB⟩) : UInt8 × Bs), (73, ⟨XB, xc, XX⟩), (90, ⟨NA, nc, N⟩)][k]? = some d ∧ w8.cell? ⟨H, k, none⟩ = some (.slice d.2.A d.2.l.length d.2.c) ∧ w8.cell? ⟨H + 1, k, none⟩ = some (.int .u8 (d.1.toNat : Int)) ∧ RdB w8 w8.heap.size d.2.A d.2.l := by
  have e0 := (h.keep H hn (by omega)).trans hp
  have e1 := (h.keep (H + 1) (by omega) (by omega)).trans hk
  match k, hlt with
  | 0, _ => exact ⟨_, rfl, by rw [cell_of_row _ H 0 _ _ (0, 0) e0]; rfl, by rw [cell_of_row _ (H + 1) 0 _ _ (0, 0) e1]; rfl, (h.own o0 h0).rd⟩
  | 1, _ => exact ⟨_, rfl, by rw [cell_of_row _ H 1 _ _ (0, 0) e0]; rfl, by rw [cell_of_row _ (H + 1) 1 _ _ (0, 0) e1]; rfl, (h.own o1 h1).rd⟩
  | 2, _ => exact ⟨_, rfl, by rw [cell_of_row _ H 2 _ _ (0, 0) e0]; rfl, by rw [cell_of_row _ (H + 1) 2 _ _ (0, 0) e1]; rfl, (h.own o2 h2).rd⟩
/-- How the fourth loop ends. -/
theorem four_end {R : Int × List UInt8} {out BB XX N : List UInt8} {FA XB NA : Option Addr} {fc xc nc : Nat} (hf : R = if (((false || !decide (BB.length ≤ 65536)) || !decide (XX.length ≤ 65536)) || !decide (N.length ≤ 65536)) = true then (2, []) else (0, ((out ++ Tb.putL 70 BB) ++ Tb.putL 73 XX) ++ Tb.putL 90 N))
    (D : List (UInt8 × Bs)) (hD : D = [(70, ⟨FA, fc, BB⟩), (73, ⟨XB, xc, XX⟩), (90, ⟨NA, nc, N⟩)]) :
    ((∀ j (hj : j < D.length), j < 3 → Tb.fits D[j].2.l = true) → R = (0, out ++ (D.take 3).flatMap (fun p => Tb.putL p.1 p.2.l))) ∧ (∀ p ∈ D, ¬ p.2.l.length ≤ 65536 → R = (2, [])) := by
  subst hD
  refine ⟨fun h => ?_, fun p hp hn => ?_⟩
  · have g0 : Tb.fits BB = true := h 0 (by simp) (by omega)
    have g1 : Tb.fits XX = true := h 1 (by simp) (by omega)
    have g2 : Tb.fits N = true := h 2 (by simp) (by omega)
    unfold Tb.fits at g0 g1 g2
    rw [hf, g0, g1, g2]
    simp
  · simp only [List.mem_cons, List.not_mem_nil, or_false] at hp
    rw [hf, if_pos]
    rcases hp with rfl | rfl | rfl
    · simp only [Bool.or_eq_true, Bool.not_eq_true', decide_eq_false_iff_not]; exact .inl (.inl (.inr hn))
    · simp only [Bool.or_eq_true, Bool.not_eq_true', decide_eq_false_iff_not]; exact .inl (.inr hn)
    · simp only [Bool.or_eq_true, Bool.not_eq_true', decide_eq_false_iff_not]; exact .inr hn
theorem len_flat {α : Type} {f : α → List UInt8} {c : Nat} : ∀ (l : List α), (∀ p ∈ l, (f p).length ≤ c) → (l.flatMap f).length ≤ l.length * c
  | [], _ => by simp
  | a :: l, h => by
    rw [List.flatMap_cons, List.length_append, List.length_cons, Nat.succ_mul]
    have h1 := len_flat l (fun p hp => h p (by simp [hp]))
    have h2 := h a (by simp)
    omega
/-- The reference's frame, the way known. -/
theorem rfput_yes (k : UInt8) (A : Option Addr) (c : Nat) (b : List UInt8) (w : World) (h : RdB w w.heap.size A b) (hl : b.length ≤ 65536) :
    Calls Tryd.prog 26 #[.int .u8 (k.toNat : Int), .slice A b.length c] w fun e w' => ∃ A c, e = .returned (.tuple #[.slice A (Frm.put k b).length c, .int .i64 0]) ∧ Own w' w.heap.size 5 A c (Frm.put k b) ∧ Below w.heap.size w w' :=
  (rfput_any k A c b w h (by omega)).mono fun e w' h => by
    obtain ⟨hb, ⟨h1, _⟩ | ⟨_, A, c, he, ho⟩⟩ := h
    · rw [decide_eq_false_iff_not] at h1; omega
    · exact ⟨A, c, he, ho, hb⟩
theorem rfput_no (k : UInt8) (A : Option Addr) (c : Nat) (b : List UInt8) (w : World) (h : RdB w w.heap.size A b) (hl : b.length ≤ 70368744177664) (hn : ¬ b.length ≤ 65536) :
    Calls Tryd.prog 26 #[.int .u8 (k.toNat : Int), .slice A b.length c] w fun e w' => e = .returned (.tuple #[.slice none 0 0, .int .i64 1]) ∧ Below w.heap.size w w' :=
  (rfput_any k A c b w h hl).mono fun e w' h => by
    obtain ⟨hb, ⟨_, he⟩ | ⟨h1, _⟩⟩ := h
    · exact ⟨he, hb⟩
    · rw [decide_eq_true_eq] at h1; exact absurd h1 hn
end Go.Proofs.YtgafionfojnieaaDoor
