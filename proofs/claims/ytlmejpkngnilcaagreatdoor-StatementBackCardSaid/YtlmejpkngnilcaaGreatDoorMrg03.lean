/- Parts of the proof, one behind the other: A range over a function whose iterator keeps state in blocks of its own: the contract of such an iterator; the law of the statement; a function's end behind marks. Over any program.; A range over a function whose iterator keeps state in blocks of its own, and yields what a relation T says: the law of the statement. Over any program. -/
import Derived.RangeFuncNested
import Derived.RangeFuncBound
import Derived.RangeFuncCalls
import Derived.RangeFuncLeaves
import Derived.WalkKit
import Derived.OwnWalkIn
import Derived.TacticsInMore
import Derived.LoopNIn
import Derived.LoopIn
namespace Go.Proofs.YtlmejpkngnilcaaGreatDoor
open Go.RowKit

theorem grownBy_set (W : World) (p : Addr) (v : Value) : W.grownBy (W.setCell p v) (some p.block) :=
  ⟨rfl, rfl, rfl, by simp [World.setCell], fun k _ hk => Below.heap_setCell W p v k (fun e => hk (by rw [e]))⟩
/-- J abides new blocks and a turn of an iterator's own block. -/
def AbO {β : Type} (own : Nat → Prop) (J : β → World → Prop) : Prop := ∀ s W W' row, J s W → W.grownBy W' row → (∀ r, row = some r → own r) → J s W'
theorem AbO.alloc {β : Type} {own : Nat → Prop} {J : β → World → Prop} (h : AbO own J) {s : β} {W : World} (hs : J s W) (o : Obj) : J s (W.alloc o) := h s W _ none hs (World.grownBy_alloc W o none) (fun r e => by cases e)
theorem AbO.setCell {β : Type} {own : Nat → Prop} {J : β → World → Prop} (h : AbO own J) {s : β} {W : World} (hs : J s W) (p : Addr) (v : Value) (hp : own p.block) : J s (W.setCell p v) :=
  h s W _ (some p.block) hs (grownBy_set W p v) (fun r e => by cases e; exact hp)
/-- The contract of an iterator that keeps its state in the blocks 'own'. -/
def SeqO {α : Type} (own : Nat → Prop) (F : Fence) (n : Nat) (P : Program) (g : Nat) (lb : Array Value) (encs : α → Array Value) (Kp : World → World → Prop) (S Sp : List α → Prop) (N : Nat) (w : World) : Prop :=
  ∀ (l : Nat) (J Jx : List α → World → Prop) (W : World), Below w.heap.size w W → AbO own J → AbO own Jx →
    (∀ pre x W1, J pre W1 → pre.length < N → YieldAt F (n - 1) P l (encs x) W1 fun e W' => (e = .returned (.bool true) ∧ J (pre ++ [x]) W' ∧ Kp W1 W') ∨ (e = .returned (.bool false) ∧ Jx (pre ++ [x]) W')) →
    J [] W →
    CallsIn F n P g (#[.func (.yield l) #[] #[]] ++ lb) W fun e W' => (∃ v, e = .returned v) ∧ ((∃ xs, S xs ∧ J xs W') ∨ (∃ pre, Sp pre ∧ Jx pre W'))

variable {F : Fence} {n : Nat} {P : Program}
theorem rangeFunc_o {α : Type} {own : Nat → Prop} {g : Operand} {ps : Array Tmp} {assign body : Code} {Q : Exit → Act → World → Prop} {a : Act} {w : World}
    (hro : F.round = none) (h1 : 1 ≤ n) {gf : Nat} {lb : Array Value} (hg : a.eval g = .func (.func gf) #[] lb) (hFg : F.fn gf) (eg : ∀ args w, (callFunc gf args).run P w = .ok (.enter gf args) w)
    {encs : α → Array Value} {Kp : World → World → Prop} {S Sp : List α → Prop} {N : Nat} (hseq : SeqO own F (n - 1) P gf lb encs Kp S Sp N w) (hown : ∀ r, own r → r < w.heap.size)
    (hKt : ∀ {A B C : World}, Kp A B → Kp B C → Kp A C) (hKb : ∀ (W : World) (l : Nat) (o : Obj), w.heap.size ≤ l → l < W.heap.size → Kp W (W.putObj l o)) (hps : ∀ x, (encs x).size = ps.size)
    (I : List α → World → Prop) (Ix : Code → List α → World → Prop) (hI : OwnFrom w.heap.size I) (hIx : ∀ c, OwnFrom w.heap.size (Ix c)) (hIo : AbO own I) (hIxo : ∀ c, AbO own (Ix c)) (h0 : I [] w) (a₁ : α → Act)
    (hassign : ∀ (l : Nat) (x : α) (W : World) (K : Act → World → Prop), K (a₁ x) W →
      assign.wpIn (F.inRound l) (n - 1 - 1) P (Exit.then K (fun _ _ _ => False)) { tmps := (ps.zip (encs x)).foldl (fun t (p, v) => t.setIfInBounds p v) a.tmps, defers := [] } W)
    (hbody : ∀ (l : Nat) (pre : List α) (x : α) (W : World), I pre W → pre.length < N → body.wpIn (F.inRound l) (n - 1 - 1) P (ownPostG w.heap.size Kp I Ix (pre ++ [x]) W) (a₁ x) W)
    (hdone : ∀ (D : Nat) (xs : List α) (W : World), w.heap.size ≤ D → S xs → I xs W → W.heap[D]? = some (.deferred (some [])) → Q .normal { a with defers := { target := .collected D, args := #[] } :: a.defers } W)
    (hstop : ∀ (D : Nat) (c : Code) (pre : List α) (W : World), w.heap.size ≤ D → Sp pre → Ix c pre W → W.heap[D]? = some (.deferred (some [])) → c.wpIn F n P Q { a with defers := { target := .collected D, args := #[] } :: a.defers } W) :
    (Code.rangeFunc g ps assign body).wpIn F n P Q a w := by
  refine wpIn_rangeFunc fun fn hfn => ?_
  rw [hro]
  -- D: the block for deferred calls; D + 1: the record
  obtain ⟨D, hD⟩ : ∃ D, D = w.heap.size := ⟨_, rfl⟩
  obtain ⟨rec, hrec⟩ : ∃ rec : LoopState → Option Code → Loop, rec = fun st pe => { state := st, pending := pe, fn, tmps := a.tmps, params := ps, assign, body, defers := D } := ⟨_, rfl⟩
  obtain ⟨V, hV⟩ : ∃ V, (w.alloc (.deferred (some []))).alloc (.loop (rec .ready none)) = V := ⟨_, rfl⟩
  have v1 : V.heap[D + 1]? = some (.loop (rec .ready none)) := by
    rw [← hV, hD]; have := World.alloc_heap_new (w.alloc (.deferred (some []))) (.loop (rec .ready none)); rwa [World.size_alloc] at this
  have v2 : V.heap[D]? = some (.deferred (some [])) := by
    rw [← hV, hD]; exact (Below.heap_alloc _ _ _ (by simp)).trans (World.alloc_heap_new w _)
  have v3 : I [] V := by rw [← hV]; exact hI.alloc _ (hI.alloc _ h0)
  have v4 : Below w.heap.size w V := by rw [← hV]; exact ((Below.refl _ w).alloc (Nat.le_refl _) _).alloc (by simp) _
  have apart : ∀ {A B : World} {row : Option Nat}, A.grownBy B row → (∀ r, row = some r → own r) → ∀ k o, D ≤ k → A.heap[k]? = some o → B.heap[k]? = some o := fun hgr hr k o hk ho =>
    (hgr.block k (Array.getElem?_eq_some_iff.1 ho).1 (fun e => by have := hown _ (hr _ e.symm); omega)).trans ho
  refine ⟨D + 1, [{ target := .collected D, args := #[] }], V, { target := .fn (.func gf) lb, args := #[.func (.yield (D + 1)) #[] #[]] }, V, gf, #[.func (.yield (D + 1)) #[] #[]] ++ lb, V, ?_, ?_, ?_, ?_, fun _ => h1, ?_⟩
  · rw [← hV, hrec, hD]; exact run_enterLoop_outer _ _ _ _ _
  · simp only [resolve, hg]; simp [go_sem]
  · intro f' hf'; simp [Target.leads] at hf'; subst hf'; exact hFg
  · simp [invoke, go_sem, eg]
  refine (hseq (D + 1) (fun pre W => I pre W ∧ W.heap[D + 1]? = some (.loop (rec .ready none)) ∧ W.heap[D]? = some (.deferred (some [])))
    (fun pre W => ∃ c, Ix c pre W ∧ W.heap[D + 1]? = some (.loop (rec .done (some c))) ∧ W.heap[D]? = some (.deferred (some []))) V v4
    (fun s A B row hs hgr hr => ⟨hIo s A B row hs.1 hgr hr, apart hgr hr _ _ (by omega) hs.2.1, apart hgr hr _ _ (Nat.le_refl _) hs.2.2⟩)
    (fun s A B row hs hgr hr => by
      obtain ⟨c, hc, x1, x2⟩ := hs
      exact ⟨c, hIxo c s A B row hc hgr hr, apart hgr hr _ _ (by omega) x1, apart hgr hr _ _ (Nat.le_refl _) x2⟩) ?_ ⟨v3, v1, v2⟩).mono ?_
  · rintro pre x W ⟨hi, hl, hk⟩ hlen
    have hlt : D + 1 < W.heap.size := (Array.getElem?_eq_some_iff.1 hl).1
    have hy := run_yield (P := P) (args := encs x) hl (by rw [hrec]; exact hps x)
    rw [hrec] at hy
    refine ⟨fn, _, assign, body, hy, roundIn_of_wpIn hfn (hassign _ x W _ ⟨_, run_beginRound hl (by rw [hrec]), ?_⟩)⟩
    obtain ⟨U, hU⟩ : ∃ U, W.putObj (D + 1) (.loop { rec .ready none with state := .busy }) = U := ⟨_, rfl⟩
    have u1 : U.heap[D + 1]? = some (.loop { rec .ready none with state := .busy }) := by rw [← hU]; exact World.putObj_heap_same hlt
    have u2 : U.heap[D]? = some (.deferred (some [])) := by rw [← hU]; exact (World.putObj_heap_other (by omega)).trans hk
    have u3 : Kp W U := by rw [← hU]; exact hKb _ _ _ (by omega) hlt
    have u4 : I pre U := by rw [← hU]; exact hI.putObj _ hi (by omega) hl rfl
    rw [hU]
    refine wpIn_mono (hbody _ pre x U u4 hlen) ?_
    have fin : ∀ (jump : Option Code) (T : World), KeepsFrom w.heap.size U T → T.heap[D + 1]? = some (.loop { rec .ready none with state := .busy }) ∧
        ∃ T', T.putObj (D + 1) (.loop (rec (if jump.isNone then .ready else .done) jump)) = T' ∧ (Instr.endRound (D + 1) jump).run P T = .ok (.bool jump.isNone) T' ∧
          T'.heap[D + 1]? = some (.loop (rec (if jump.isNone then .ready else .done) jump)) ∧ T'.heap[D]? = some (.deferred (some [])) := fun jump T hT => by
      have t1 := hT.same _ _ (by omega) u1 rfl
      have t2 := run_endRound (P := P) jump t1
      rw [hrec] at t2
      refine ⟨t1, _, rfl, ?_, World.putObj_heap_same (Array.getElem?_eq_some_iff.1 t1).1, (World.putObj_heap_other (by omega)).trans (hT.same _ _ (by omega) u2 rfl)⟩
      rw [hrec]; exact t2
    have out : ∀ (c : Code) (T : World), KeepsFrom w.heap.size U T → Ix c (pre ++ [x]) T → ∃ v T', (Instr.endRound (D + 1) (some c)).run P T = .ok v T' ∧
        ((Ending.returned v = .returned (.bool true) ∧ (I (pre ++ [x]) T' ∧ T'.heap[D + 1]? = some (.loop (rec .ready none)) ∧ T'.heap[D]? = some (.deferred (some []))) ∧ Kp W T') ∨
         (Ending.returned v = .returned (.bool false) ∧ ∃ c, Ix c (pre ++ [x]) T' ∧ T'.heap[D + 1]? = some (.loop (rec .done (some c))) ∧ T'.heap[D]? = some (.deferred (some [])))) := fun c T hT hi3 => by
      obtain ⟨t1, T', e, hr, t3, t4⟩ := fin (some c) T hT
      exact ⟨_, _, hr, .inr ⟨rfl, c, by rw [← e]; exact (hIx c).putObj _ hi3 (by omega) t1 rfl, t3, t4⟩⟩
    rintro e a3 T hp
    cases e with
    | normal =>
      obtain ⟨hT, hkp, hi3⟩ := hp
      obtain ⟨t1, T', e, hr, t3, t4⟩ := fin none T hT
      exact ⟨_, _, hr, .inl ⟨rfl, ⟨by rw [← e]; exact hI.putObj _ hi3 (by omega) t1 rfl, t3, t4⟩, hKt (hKt u3 hkp) (by rw [← e]; exact hKb _ _ _ (by omega) (Array.getElem?_eq_some_iff.1 t1).1)⟩⟩
    | ret => exact out _ _ hp.1 hp.2
    | exit id => exact out _ _ hp.1 hp.2
    | goto t => exact out _ _ hp.1 hp.2
    | panic ch => exact hp.elim
    | outgrown => exact hp.elim
  · rintro e T ⟨⟨v, rfl⟩, (⟨xs, hS, hi, hl, hk⟩ | ⟨pre, hSp, c, hi, hl, hk⟩)⟩
    · have he := run_endLoop (P := P) hl (by rw [hrec]; simp)
      rw [hrec] at he
      exact ⟨none, _, he, hdone _ xs _ (by omega) hS (hI.putObj _ hi (by omega) hl rfl) ((World.putObj_heap_other (by omega)).trans hk)⟩
    · have he := run_endLoop (P := P) hl (by rw [hrec]; simp)
      rw [hrec] at he
      exact ⟨some c, _, he, hstop _ c pre _ (by omega) hSp ((hIx c).putObj _ hi (by omega) hl rfl) ((World.putObj_heap_other (by omega)).trans hk)⟩

/-- Marks on an activation: each names a block for deferred calls that holds none, all apart, all from B on. -/
def Marks (B : Nat) (W : World) : List Deferred → Prop
  | [] => True
  | d :: ds => ∃ D, d = { target := .collected D, args := #[] } ∧ B ≤ D ∧ W.heap[D]? = some (.deferred (some [])) ∧ (∀ d' ∈ ds, d' ≠ d) ∧ Marks B W ds
/-- Blocks for deferred calls from B on have been shut. -/
inductive Shut (B : Nat) (A : World) : World → Prop
  | refl : Shut B A A
  | step {W : World} {D : Nat} : Shut B A W → B ≤ D → W.heap[D]? = some (.deferred (some [])) → Shut B A (W.putObj D (.deferred none))
theorem Shut.blw {B n : Nat} {w A W : World} (h : Shut B A W) (hb : Below n w A) (hn : n ≤ B) : Below n w W := by
  induction h with
  | refl => exact hb
  | step _ hD hk ih => exact ih.grown (grownBy_putObj' _ _ _) (Nat.le_of_lt (Nat.lt_of_le_of_lt (Nat.le_trans hn hD) (Array.getElem?_eq_some_iff.1 hk).1)) (fun k e => by cases e; omega)
theorem Shut.row {B base size n : Nat} {e : TypeId} {v : Value} {xs : List Value} {A W : World} (h : Shut B A W) (ho : A.ownsRow base e size v n xs) : W.ownsRow base e size v n xs := by
  induction h with
  | refl => exact ho
  | step _ _ hk ih => exact ownsRow_putObj ih _ hk rfl
theorem Marks.shut {B k : Nat} {W : World} (hk : W.heap[k]? = some (.deferred (some []))) : ∀ {ds : List Deferred}, Marks B W ds → (∀ d ∈ ds, d ≠ { target := .collected k, args := #[] }) → Marks B (W.putObj k (.deferred none)) ds
  | [], _, _ => trivial
  | d :: ds, ⟨D, e, hB, hD, hne, hm⟩, h => ⟨D, e, hB, (World.putObj_heap_other (fun hh => h d (by simp) (by rw [e, hh]))).trans hD, hne, Marks.shut hk hm (fun d' hd => h d' (by simp [hd]))⟩
/-- A function's end behind marks. -/
theorem leaves_marks {fn : Func} {tmps : Array Value} {R : Ending → World → Prop} {B : Nat} {A : World} (v : Value) (hres : ∀ W, (results fn tmps).run P W = .ok v W) (hR : ∀ W, Shut B A W → R (.returned v) W) :
    ∀ (ds : List Deferred) (W : World), Marks B W ds → Shut B A W → LeavesInM F n P fn tmps R ds .returning W
  | [], W, _, hW => ⟨v, hres W, hR W hW⟩
  | d :: ds, W, ⟨D, e, hB, hD, hne, hm⟩, hW => ⟨by simp, .inl ⟨D, _, by rw [e], run_takeDeferred hD, leaves_marks v hres hR ds _ (hm.shut hD (fun d' hd => by rw [← e]; exact hne d' hd)) (.step hW hB hD)⟩⟩
end Go.Proofs.YtlmejpkngnilcaaGreatDoor

namespace Go.Proofs.YtlmejpkngnilcaaGreatDoor
open Go.RowKit

/-- The contract of an iterator that keeps its state in the blocks 'own', and yields x behind pre where T says so. -/
def SeqT {α : Type} (T : List α → α → Prop) (own : Nat → Prop) (F : Fence) (n : Nat) (P : Program) (g : Nat) (lb : Array Value) (encs : α → Array Value) (Kp : World → World → Prop) (S Sp : List α → Prop) (N : Nat) (w : World) : Prop :=
  ∀ (l : Nat) (J Jx : List α → World → Prop) (W : World), Below w.heap.size w W → AbO own J → AbO own Jx →
    (∀ pre x W1, J pre W1 → T pre x → pre.length < N → YieldAt F (n - 1) P l (encs x) W1 fun e W' => (e = .returned (.bool true) ∧ J (pre ++ [x]) W' ∧ Kp W1 W') ∨ (e = .returned (.bool false) ∧ Jx (pre ++ [x]) W')) →
    J [] W →
    CallsIn F n P g (#[.func (.yield l) #[] #[]] ++ lb) W fun e W' => (∃ v, e = .returned v) ∧ ((∃ xs, S xs ∧ J xs W') ∨ (∃ pre, Sp pre ∧ Jx pre W'))

variable {F : Fence} {n : Nat} {P : Program}
theorem rangeFunc_t {α : Type} {T : List α → α → Prop} {own : Nat → Prop} {g : Operand} {ps : Array Tmp} {assign body : Code} {Q : Exit → Act → World → Prop} {a : Act} {w : World}
    (hro : F.round = none) (h1 : 1 ≤ n) {gf : Nat} {lb : Array Value} (hg : a.eval g = .func (.func gf) #[] lb) (hFg : F.fn gf) (eg : ∀ args w, (callFunc gf args).run P w = .ok (.enter gf args) w)
    {encs : α → Array Value} {Kp : World → World → Prop} {S Sp : List α → Prop} {N : Nat} (hseq : SeqT T own F (n - 1) P gf lb encs Kp S Sp N w) (hown : ∀ r, own r → r < w.heap.size)
    (hKt : ∀ {A B C : World}, Kp A B → Kp B C → Kp A C) (hKb : ∀ (W : World) (l : Nat) (o : Obj), w.heap.size ≤ l → l < W.heap.size → Kp W (W.putObj l o)) (hps : ∀ x, (encs x).size = ps.size)
    (I : List α → World → Prop) (Ix : Code → List α → World → Prop) (hI : OwnFrom w.heap.size I) (hIx : ∀ c, OwnFrom w.heap.size (Ix c)) (hIo : AbO own I) (hIxo : ∀ c, AbO own (Ix c)) (h0 : I [] w) (a₁ : α → Act)
    (hassign : ∀ (l : Nat) (x : α) (W : World) (K : Act → World → Prop), K (a₁ x) W →
      assign.wpIn (F.inRound l) (n - 1 - 1) P (Exit.then K (fun _ _ _ => False)) { tmps := (ps.zip (encs x)).foldl (fun t (p, v) => t.setIfInBounds p v) a.tmps, defers := [] } W)
    (hbody : ∀ (l : Nat) (pre : List α) (x : α) (W : World), I pre W → T pre x → pre.length < N → body.wpIn (F.inRound l) (n - 1 - 1) P (ownPostG w.heap.size Kp I Ix (pre ++ [x]) W) (a₁ x) W)
    (hdone : ∀ (D : Nat) (xs : List α) (W : World), w.heap.size ≤ D → S xs → I xs W → W.heap[D]? = some (.deferred (some [])) → Q .normal { a with defers := { target := .collected D, args := #[] } :: a.defers } W)
    (hstop : ∀ (D : Nat) (c : Code) (pre : List α) (W : World), w.heap.size ≤ D → Sp pre → Ix c pre W → W.heap[D]? = some (.deferred (some [])) → c.wpIn F n P Q { a with defers := { target := .collected D, args := #[] } :: a.defers } W) :
    (Code.rangeFunc g ps assign body).wpIn F n P Q a w := by
  refine wpIn_rangeFunc fun fn hfn => ?_
  rw [hro]
  -- D: the block for deferred calls; D + 1: the record
  obtain ⟨D, hD⟩ : ∃ D, D = w.heap.size := ⟨_, rfl⟩
  obtain ⟨rec, hrec⟩ : ∃ rec : LoopState → Option Code → Loop, rec = fun st pe => { state := st, pending := pe, fn, tmps := a.tmps, params := ps, assign, body, defers := D } := ⟨_, rfl⟩
  obtain ⟨V, hV⟩ : ∃ V, (w.alloc (.deferred (some []))).alloc (.loop (rec .ready none)) = V := ⟨_, rfl⟩
  have v1 : V.heap[D + 1]? = some (.loop (rec .ready none)) := by
    rw [← hV, hD]; have := World.alloc_heap_new (w.alloc (.deferred (some []))) (.loop (rec .ready none)); rwa [World.size_alloc] at this
  have v2 : V.heap[D]? = some (.deferred (some [])) := by
    rw [← hV, hD]; exact (Below.heap_alloc _ _ _ (by simp)).trans (World.alloc_heap_new w _)
  have v3 : I [] V := by rw [← hV]; exact hI.alloc _ (hI.alloc _ h0)
  have v4 : Below w.heap.size w V := by rw [← hV]; exact ((Below.refl _ w).alloc (Nat.le_refl _) _).alloc (by simp) _
  have apart : ∀ {A B : World} {row : Option Nat}, A.grownBy B row → (∀ r, row = some r → own r) → ∀ k o, D ≤ k → A.heap[k]? = some o → B.heap[k]? = some o := fun hgr hr k o hk ho =>
    (hgr.block k (Array.getElem?_eq_some_iff.1 ho).1 (fun e => by have := hown _ (hr _ e.symm); omega)).trans ho
  refine ⟨D + 1, [{ target := .collected D, args := #[] }], V, { target := .fn (.func gf) lb, args := #[.func (.yield (D + 1)) #[] #[]] }, V, gf, #[.func (.yield (D + 1)) #[] #[]] ++ lb, V, ?_, ?_, ?_, ?_, fun _ => h1, ?_⟩
  · rw [← hV, hrec, hD]; exact run_enterLoop_outer _ _ _ _ _
  · simp only [resolve, hg]; simp [go_sem]
  · intro f' hf'; simp [Target.leads] at hf'; subst hf'; exact hFg
  · simp [invoke, go_sem, eg]
  refine (hseq (D + 1) (fun pre W => I pre W ∧ W.heap[D + 1]? = some (.loop (rec .ready none)) ∧ W.heap[D]? = some (.deferred (some [])))
    (fun pre W => ∃ c, Ix c pre W ∧ W.heap[D + 1]? = some (.loop (rec .done (some c))) ∧ W.heap[D]? = some (.deferred (some []))) V v4
    (fun s A B row hs hgr hr => ⟨hIo s A B row hs.1 hgr hr, apart hgr hr _ _ (by omega) hs.2.1, apart hgr hr _ _ (Nat.le_refl _) hs.2.2⟩)
    (fun s A B row hs hgr hr => by
      obtain ⟨c, hc, x1, x2⟩ := hs
      exact ⟨c, hIxo c s A B row hc hgr hr, apart hgr hr _ _ (by omega) x1, apart hgr hr _ _ (Nat.le_refl _) x2⟩) ?_ ⟨v3, v1, v2⟩).mono ?_
  · rintro pre x W ⟨hi, hl, hk⟩ hTx hlen
    have hlt : D + 1 < W.heap.size := (Array.getElem?_eq_some_iff.1 hl).1
    have hy := run_yield (P := P) (args := encs x) hl (by rw [hrec]; exact hps x)
    rw [hrec] at hy
    refine ⟨fn, _, assign, body, hy, roundIn_of_wpIn hfn (hassign _ x W _ ⟨_, run_beginRound hl (by rw [hrec]), ?_⟩)⟩
    obtain ⟨U, hU⟩ : ∃ U, W.putObj (D + 1) (.loop { rec .ready none with state := .busy }) = U := ⟨_, rfl⟩
    have u1 : U.heap[D + 1]? = some (.loop { rec .ready none with state := .busy }) := by rw [← hU]; exact World.putObj_heap_same hlt
    have u2 : U.heap[D]? = some (.deferred (some [])) := by rw [← hU]; exact (World.putObj_heap_other (by omega)).trans hk
    have u3 : Kp W U := by rw [← hU]; exact hKb _ _ _ (by omega) hlt
    have u4 : I pre U := by rw [← hU]; exact hI.putObj _ hi (by omega) hl rfl
    rw [hU]
    refine wpIn_mono (hbody _ pre x U u4 hTx hlen) ?_
    have fin : ∀ (jump : Option Code) (T : World), KeepsFrom w.heap.size U T → T.heap[D + 1]? = some (.loop { rec .ready none with state := .busy }) ∧
        ∃ T', T.putObj (D + 1) (.loop (rec (if jump.isNone then .ready else .done) jump)) = T' ∧ (Instr.endRound (D + 1) jump).run P T = .ok (.bool jump.isNone) T' ∧
          T'.heap[D + 1]? = some (.loop (rec (if jump.isNone then .ready else .done) jump)) ∧ T'.heap[D]? = some (.deferred (some [])) := fun jump T hT => by
      have t1 := hT.same _ _ (by omega) u1 rfl
      have t2 := run_endRound (P := P) jump t1
      rw [hrec] at t2
      refine ⟨t1, _, rfl, ?_, World.putObj_heap_same (Array.getElem?_eq_some_iff.1 t1).1, (World.putObj_heap_other (by omega)).trans (hT.same _ _ (by omega) u2 rfl)⟩
      rw [hrec]; exact t2
    have out : ∀ (c : Code) (T : World), KeepsFrom w.heap.size U T → Ix c (pre ++ [x]) T → ∃ v T', (Instr.endRound (D + 1) (some c)).run P T = .ok v T' ∧
        ((Ending.returned v = .returned (.bool true) ∧ (I (pre ++ [x]) T' ∧ T'.heap[D + 1]? = some (.loop (rec .ready none)) ∧ T'.heap[D]? = some (.deferred (some []))) ∧ Kp W T') ∨
         (Ending.returned v = .returned (.bool false) ∧ ∃ c, Ix c (pre ++ [x]) T' ∧ T'.heap[D + 1]? = some (.loop (rec .done (some c))) ∧ T'.heap[D]? = some (.deferred (some [])))) := fun c T hT hi3 => by
      obtain ⟨t1, T', e, hr, t3, t4⟩ := fin (some c) T hT
      exact ⟨_, _, hr, .inr ⟨rfl, c, by rw [← e]; exact (hIx c).putObj _ hi3 (by omega) t1 rfl, t3, t4⟩⟩
    rintro e a3 T hp
    cases e with
    | normal =>
      obtain ⟨hT, hkp, hi3⟩ := hp
      obtain ⟨t1, T', e, hr, t3, t4⟩ := fin none T hT
      exact ⟨_, _, hr, .inl ⟨rfl, ⟨by rw [← e]; exact hI.putObj _ hi3 (by omega) t1 rfl, t3, t4⟩, hKt (hKt u3 hkp) (by rw [← e]; exact hKb _ _ _ (by omega) (Array.getElem?_eq_some_iff.1 t1).1)⟩⟩
    | ret => exact out _ _ hp.1 hp.2
    | exit id => exact out _ _ hp.1 hp.2
    | goto t => exact out _ _ hp.1 hp.2
    | panic ch => exact hp.elim
    | outgrown => exact hp.elim
  · rintro e T ⟨⟨v, rfl⟩, (⟨xs, hS, hi, hl, hk⟩ | ⟨pre, hSp, c, hi, hl, hk⟩)⟩
    · have he := run_endLoop (P := P) hl (by rw [hrec]; simp)
      rw [hrec] at he
      exact ⟨none, _, he, hdone _ xs _ (by omega) hS (hI.putObj _ hi (by omega) hl rfl) ((World.putObj_heap_other (by omega)).trans hk)⟩
    · have he := run_endLoop (P := P) hl (by rw [hrec]; simp)
      rw [hrec] at he
      exact ⟨some c, _, he, hstop _ c pre _ (by omega) hSp ((hIx c).putObj _ hi (by omega) hl rfl) ((World.putObj_heap_other (by omega)).trans hk)⟩

end Go.Proofs.YtlmejpkngnilcaaGreatDoor
