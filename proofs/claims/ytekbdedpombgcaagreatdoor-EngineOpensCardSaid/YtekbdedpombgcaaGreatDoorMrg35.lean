/- Parts of the proof, one behind the other: Contracts: version.framed; the law's few, fewEdit.; Contract: version.all, of functions that have one.; The book's closures over its store.; Contract: the book's write.; Contracts: the closures of the book's begin.; Contracts: slices.Contains at strings. The book's block beside its store.; Contract: the book's begin.; Contract: the book's clean, where nothing is to go.; Contract: the book's State.; Contracts: Open, of a store that holds no state. The law's awake. -/
import Derived.Test.YtekbdedpombgcaaGreatDoorMrg29
import Derived.Test.YtekbdedpombgcaaGreatDoorMrg34
import Derived.Test.YtekbdedpombgcaaGreatDoorMrg44
import Derived.Test.YtekbdedpombgcaaGreatDoorMrg27
import Derived.Test.YtekbdedpombgcaaGreatDoorMrg05
import Derived.Test.YtekbdedpombgcaaGreatDoorMrg21
import Derived.Test.YtekbdedpombgcaaGreatDoorMrg26
import Derived.Test.YtekbdedpombgcaaGreatDoorMrg07
namespace Go.Proofs.YtekbdedpombgcaaGreatDoor
open Go.RowKit Go.Maps

namespace Ver
/-- The bytes that framed puts into its frame. -/
def frB (e : Ed) : List UInt8 := if okE e = true then enc e else []
/-- What framed says. -/
def SaysFr (w : World) (e : Ed) (r : Ending) (w' : World) : Prop := Below w.heap.size w w' ∧
  ((65536 < (frB e).length ∧ r = .returned (.tuple #[.slice none 0 0, .int .i64 2])) ∨ ((frB e).length ≤ 65536 ∧ ∃ A c, r = .returned (.tuple #[.slice A (Frm.put 69 (frB e)).length c, .int .i64 0]) ∧ Own w' w.heap.size 5 A c (Frm.put 69 (frB e))))
theorem numI_len {n : Int} (h : n ≤ 1099511627776) : (numI n).length ≤ 10 := Cod.number_len (by omega)
theorem encF_len {f : Fi} (h : okF f = true) : (encF f).length ≤ 1100 := by
  obtain ⟨g1, g2, g3, g4, g5, g6, g7, g8, g9, g10, g11⟩ := okF_bd h
  have h1 := numI_len (n := f.number) (by omega)
  have h2 := numI_len (n := f.level) (by omega)
  have h3 := numI_len (n := f.low) (by omega)
  have h4 := numI_len (n := f.high) (by omega)
  have h5 := text_len2 (l := f.first) (by omega)
  have h6 := text_len2 (l := f.last) (by omega)
  unfold encF
  simp only [List.length_append]
  omega
theorem flatF_len : ∀ (l : List Fi), (∀ f ∈ l, okF f = true) → (l.flatMap encF).length ≤ 1100 * l.length
  | [], _ => by simp
  | f :: l, h => by
    have h1 := flatF_len l (fun m hm => h m (by simp [hm]))
    have h2 := encF_len (h f (by simp))
    rw [List.flatMap_cons, List.length_append, List.length_cons]
    omega
theorem enc_len {e : Ed} (h : okE e = true) : (enc e).length ≤ 70368744177664 := by
  obtain ⟨⟨g1, g2, g3, g4, g5, g6⟩, g7, g8⟩ := okE_bd h
  have h1 := flatF_len e.add g7
  have h2 := flat_len e.drop (fun n hn => by
    have : 1 ≤ n ∧ n ≤ 999999 := of_decide_eq_true (g8 n hn)
    exact numI_len (by omega))
  have h3 := numI_len (n := (e.add.length : Int)) (by omega)
  have h4 := numI_len (n := (e.drop.length : Int)) (by omega)
  have h5 := numI_len (n := e.log) (by omega)
  have h6 := numI_len (n := e.next) (by omega)
  unfold enc
  simp only [List.length_append]
  omega
set_option maxHeartbeats 1000000 in
set_option maxRecDepth 100000 in
theorem framed_any (e : Ev) (w : World) (h : EvOk w w.heap.size e) (hl : e.add.length ≤ 1000000) (hd : e.drop.length ≤ 1000000) :
    Calls Tryz.prog 72 #[e.val] w (SaysFr w e.ed) := by
  have hba : Below w.heap.size w (w.alloc e.obj) := (Below.refl _ _).alloc (Nat.le_refl _) _
  have KE := Lib.hid (encode_any e (w.alloc e.obj) (h.keep hba) hl hd)
  have HB0 := Lib.hid hba
  obtain ⟨ed, hed⟩ : ∃ ed, ed = e.ed := ⟨_, rfl⟩
  rw [← hed] at KE ⊢
  clear h hba hed
  obtain ⟨A, c, add, DA, dc, drop, log, next⟩ := e
  simp only [Ev.val, Ev.obj] at *
  go_enter Tryz.func72, Tryz.ntmps72
  go_wp2_with fail
  refine KE.out.mono ?_
  rintro r w1 ⟨hb1, hr⟩
  have HB1 : Hid (Below w.heap.size w w1) := Lib.hid (HB0.out.trans (hb1.mono HB0.out.size))
  obtain ⟨B1, c1, x1, rfl, hrd⟩ : ∃ B1 c1 x1, r = .returned (.tuple #[.slice B1 (frB ed).length c1, .int .i64 x1]) ∧ RdB w1 w1.heap.size B1 (frB ed) := by
    rcases hr with ⟨hok, rfl⟩ | ⟨hok, B1, c1, rfl, ho⟩
    · refine ⟨none, 0, 1, ?_, ?_⟩
      · simp [frB, hok]
      · simp [frB, hok]; exact RdB.nil
    · refine ⟨B1, c1, 0, ?_, ?_⟩
      · simp [frB, hok]
      · rw [show frB ed = enc ed by simp [frB, hok]]; exact ho.rd
  have hfl : (frB ed).length ≤ 70368744177664 := by
    unfold frB
    split
    · rename_i hok; exact enc_len hok
    · simp
  have KP := Lib.hid (fput_any 69 B1 c1 (frB ed) w1 hrd hfl)
  clear hr hb1 KE HB0 hrd hfl
  go_wp2_with fail
  refine KP.out.mono ?_
  rintro r w2 ⟨hb2, hr2⟩
  have HB2 : Hid (Below w.heap.size w w2) := Lib.hid (HB1.out.trans (hb2.mono HB1.out.size))
  rcases hr2 with ⟨hok, rfl⟩ | ⟨hok, A2, c2, rfl, ho2⟩
  · have HL : Hid (65536 < (frB ed).length) := Lib.hid (by have := of_decide_eq_false hok; omega)
    clear hok hb2
    go_wp2_with fail
    go_ret2
    exact ⟨HB2.out, .inl ⟨HL.out, rfl⟩⟩
  · have HL : Hid ((frB ed).length ≤ 65536) := Lib.hid (of_decide_eq_true hok)
    have HO := Lib.hid (ho2.mono HB1.out.size)
    clear hok hb2 ho2
    go_wp2_with fail
    go_ret2
    exact ⟨HB2.out, .inr ⟨HL.out, A2, c2, rfl, HO.out⟩⟩
end Ver
end Go.Proofs.YtekbdedpombgcaaGreatDoor

namespace Go.Proofs.YtekbdedpombgcaaGreatDoor
open Go.RowKit Go.Maps

namespace Ver
/-- A function value: what it was bound to, what it captured. -/
structure Fc where
  f : FuncId
  bd : List Value
  cb : List Value
def Fc.val (c : Fc) : Value := .func (.func c.f) c.bd.toArray c.cb.toArray
def F1 (c : Fc) : List Value := [c.val]
/-- Steps, one by one, as long as they are OK. -/
def allP {σ : Type} : List (σ → Int × σ) → σ → Int × σ
  | [], x => (0, x)
  | s :: l, x => if (s x).1 = 0 then allP l (s x).2 else s x
theorem allP_app {σ : Type} (m : List (σ → Int × σ)) : ∀ (l : List (σ → Int × σ)) (x : σ), ((allP l x).1 = 0 → allP (l ++ m) x = allP m (allP l x).2) ∧ ((allP l x).1 ≠ 0 → allP (l ++ m) x = allP l x)
  | [], x => ⟨fun _ => rfl, fun h => absurd rfl h⟩
  | t :: l, x => by
    by_cases h : (t x).1 = 0
    · have e1 : allP (t :: l ++ m) x = allP (l ++ m) (t x).2 := if_pos h
      have e2 : allP (t :: l) x = allP l (t x).2 := if_pos h
      rw [e1, e2]
      exact allP_app m l (t x).2
    · have e1 : allP (t :: l ++ m) x = t x := if_neg h
      have e2 : allP (t :: l) x = t x := if_neg h
      rw [e1, e2]
      exact ⟨fun h0 => absurd h0 h, fun _ => rfl⟩
theorem allP_one {σ : Type} (s : σ → Int × σ) (y : σ) : allP [s] y = s y := by
  by_cases h : (s y).1 = 0
  · have e : allP [s] y = (0, (s y).2) := if_pos h
    rw [e, ← h]
  · exact if_neg h
set_option maxHeartbeats 2000000 in
set_option maxRecDepth 100000 in
theorem all_any {σ : Type} (fs : List Fc) (st : List (σ → Int × σ)) (hlen : st.length = fs.length) (R : Nat → σ → World → Prop) (A : Option Addr) (c : Nat) (x : σ) (w : World) (hx : R 0 x w) (hl : fs.length ≤ 1000000)
    (hrow : ∀ k y W, R k y W → RdS F1 1 W W.heap.size A fs)
    (hen : ∀ f ∈ fs, ∀ args w, (callFunc f.f args).run Tryz.prog w = .ok (.enter f.f args) w)
    (hc : ∀ (k : Nat) (hk : k < fs.length) y W, R k y W → Calls Tryz.prog fs[k].f (fs[k].bd ++ fs[k].cb).toArray W fun e W' => e = .returned (.int .i64 ((st[k]'(by omega)) y).1) ∧ R (k + 1) ((st[k]'(by omega)) y).2 W') :
    Calls Tryz.prog 30 #[.slice A fs.length c] w fun e w' => e = .returned (.int .i64 (allP st x).1) ∧ ∃ j, R j (allP st x).2 w' := by
  have HR := Lib.hid hrow
  have HEN := Lib.hid hen
  have HC := Lib.hid hc
  have HX := Lib.hid hx
  have HLN := Lib.hid hlen
  clear hrow hen hc hx
  go_enter Tryz.func30, Tryz.ntmps30
  go_wp2_with fail
  go_loopw [8] (fun i wr => ∃ (k : Nat) (y : σ), k ≤ fs.length ∧ i = .int .i64 (k : Int) ∧ Hid (R k y wr) ∧ Hid (allP (st.take k) x = (0, y))) (fun i _ => fs.length - (intOf i).toNat)
  case atStart => exact ⟨0, x, by omega, rfl, HX, Lib.hid rfl⟩
  case round =>
    obtain ⟨k, y, hk, rfl, HY, HP⟩ := hrel
    by_cases hlt : k < fs.length
    · obtain ⟨b, off, hA, hbb, hcell⟩ := RdS.row (f := F1) (n := 1) (fun _ => rfl) (by omega) (HR.out k y wr HY.out) (by omega)
      have c0 := hcell k hlt 0 _ rfl
      rw [Nat.add_zero, Nat.mul_one] at c0
      have KC := Lib.hid (HC.out k hlt y wr HY.out)
      have hen := HEN.out _ (List.getElem_mem hlt)
      have hks : k < st.length := by have := HLN.out; omega
      have HTK : Hid (allP (st.take (k + 1)) x = (st[k] y)) := Lib.hid (by
        rw [List.take_succ_eq_append_getElem hks, (allP_app _ _ _).1 (by rw [HP.out]), HP.out]
        exact allP_one _ _)
      obtain ⟨z, hz⟩ : ∃ z, z = st[k] y := ⟨_, rfl⟩
      have HZB : Hid ((st[k] y).1 ≠ 0 → allP st x = st[k] y) := Lib.hid (fun hne => by
        have h1 := HTK.out
        rw [← h1] at hne ⊢
        have h2 := (allP_app (st.drop (k + 1)) (st.take (k + 1)) x).2 hne
        rwa [List.take_append_drop] at h2)
      rw [← hz] at KC HTK HZB
      obtain ⟨fc, hfc⟩ : ∃ fc, fc = fs[k] := ⟨_, rfl⟩
      rw [← hfc] at c0 KC hen
      obtain ⟨ff, bd, cb⟩ := fc
      obtain ⟨z1, z2⟩ := z
      simp only [Fc.val] at c0 KC hen HZB
      subst hA
      clear hcell hz hfc
      go_wp2_with fail
      refine KC.out.mono ?_
      rintro e w2 ⟨rfl, hr⟩
      have HR2 := Lib.hid hr
      clear hr
      by_cases h0 : z1 = 0
      · subst h0
        go_wp2_with fail
        exact ⟨⟨k + 1, z2, hlt, by simp, HR2, HTK⟩, by simp only [intOf]; omega⟩
      · have hz1 : ¬ z1 = 0 := h0
        go_wp2_with fail
        go_ret
        rw [HZB.out (by simpa using h0)]
        exact ⟨rfl, _, HR2.out⟩
    · have hke : k = fs.length := by omega
      have HE : Hid (allP st x = (0, y)) := Lib.hid (by
        have := HP.out
        rwa [List.take_of_length_le (by omega)] at this)
      subst hke
      go_wp2_with fail
      go_ret
      rw [HE.out]
      exact ⟨rfl, _, HY.out⟩
end Ver
end Go.Proofs.YtekbdedpombgcaaGreatDoor

namespace Go.Proofs.YtekbdedpombgcaaGreatDoor
open Go.RowKit Go.Maps

namespace Ver
/-- The store, behind operations that began at w0. -/
def StK (w0 : World) (base g : Nat) (m0 : Sto.Mem) (s : Sto.St) (W : World) : Prop := ∃ m, Sto.StAt W base g s m ∧ Sto.Aft w0 W g m0 m
theorem StK.keep {w0 W : World} {base g q : Nat} {m0 : Sto.Mem} {s : Sto.St} (h : StK w0 base g m0 s W) (hq : q < w0.heap.size) (hn : ¬ Sto.Mut g m0 q) : W.heap[q]? = w0.heap[q]? := by
  obtain ⟨m, _, ha⟩ := h
  exact ha.block q hq hn
theorem StK.op {w0 W : World} {base g : Nat} {m0 : Sto.Mem} {s : Sto.St} {f : Nat} {args : Array Value} {x : Int × Sto.St} (h : StK w0 base g m0 s W) (hc : ∀ m, Sto.StAt W base g s m → Calls Tryz.prog f args W (Sto.OpP W base g m x)) :
    Calls Tryz.prog f args W fun e W' => e = .returned (.int .i64 x.1) ∧ StK w0 base g m0 x.2 W' := by
  obtain ⟨m, h1, h2⟩ := h
  exact (hc m h1).mono fun e W' ⟨e1, m', h3, h4⟩ => ⟨e1, m', h3, h2.trans h4⟩
/-- A call of two arguments by its contract, at a step of a region that draws its order. -/
theorem step_call2_dv {P : Program} {w : World} {ops : Array Oper} {o : Oper} {a : Act} {K : Act → World → Prop} {Q : Exit → Act → World → Prop} {E : Prop} (hgd : o.guard = none) (d : Option Tmp) (hd : o.dst = d) {f : Nat} (x y : Operand) {ats : Array TypeId}
    (ho : o.op = .call { callee := .value (.func f), args := #[x, y], argTypes := ats }) (vx vy : Value) (hx : a.eval x = vx) (hy : a.eval y = vy) (hen : ∀ args w, (callFunc f args).run P w = .ok (.enter f args) w) (R : Ending → World → Prop) (hc : Calls P f #[vx, vy] w R)
    (h : ∀ e w', R e w' → ∃ v, e = .returned v ∧ K (a.put d v) w') : if Region.wanted o (yielded ops a.tmps) = true then Oper.wp P o a w K Q else E := by
  subst hd hx hy
  have hw : Region.wanted o (yielded ops a.tmps) = true := by simp [Region.wanted, hgd]
  rw [if_pos hw]
  unfold Oper.wp execOp
  have e1 : a.eval (.func f) = .func (.func f) #[] #[] := rfl
  simp [ho, resolve, invoke, Deferred.ofValue, e1, hen]
  rw [Oper.upon_enter]
  refine hc.mono ?_
  intro e w' hr
  obtain ⟨v, rfl, hk⟩ := h e w' hr
  exact hk
theorem StK.opA {w0 W : World} {base g : Nat} {m0 : Sto.Mem} {s : Sto.St} {f : Nat} {args : Array Value} {x : Int × Sto.St} (h : StK w0 base g m0 s W) (hc : ∀ m, Sto.StAt W base g s m → Sto.Aft w0 W g m0 m → Calls Tryz.prog f args W (Sto.OpP W base g m x)) :
    Calls Tryz.prog f args W fun e W' => e = .returned (.int .i64 x.1) ∧ StK w0 base g m0 x.2 W' := by
  obtain ⟨m, h1, h2⟩ := h
  exact (hc m h1 h2).mono fun e W' ⟨e1, m', h3, h4⟩ => ⟨e1, m', h3, h2.trans h4⟩
/-- .. of three arguments. -/
theorem step_call3_dv {P : Program} {w : World} {ops : Array Oper} {o : Oper} {a : Act} {K : Act → World → Prop} {Q : Exit → Act → World → Prop} {E : Prop} (hgd : o.guard = none) (d : Option Tmp) (hd : o.dst = d) {f : Nat} (x y z : Operand) {ats : Array TypeId}
    (ho : o.op = .call { callee := .value (.func f), args := #[x, y, z], argTypes := ats }) (vx vy vz : Value) (hx : a.eval x = vx) (hy : a.eval y = vy) (hz : a.eval z = vz) (hen : ∀ args w, (callFunc f args).run P w = .ok (.enter f args) w) (R : Ending → World → Prop) (hc : Calls P f #[vx, vy, vz] w R)
    (h : ∀ e w', R e w' → ∃ v, e = .returned v ∧ K (a.put d v) w') : if Region.wanted o (yielded ops a.tmps) = true then Oper.wp P o a w K Q else E := by
  subst hd hx hy hz
  have hw : Region.wanted o (yielded ops a.tmps) = true := by simp [Region.wanted, hgd]
  rw [if_pos hw]
  unfold Oper.wp execOp
  have e1 : a.eval (.func f) = .func (.func f) #[] #[] := rfl
  simp [ho, resolve, invoke, Deferred.ofValue, e1, hen]
  rw [Oper.upon_enter]
  refine hc.mono ?_
  intro e w' hr
  obtain ⟨v, rfl, hk⟩ := h e w' hr
  exact hk
set_option maxHeartbeats 1000000 in
set_option maxRecDepth 100000 in
theorem write1_any (w0 W : World) (base g bb gk bn : Nat) (m0 : Sto.Mem) (s : Sto.St) (n : Sto.Str) (hn : n.length ≤ maxLen) (h : StK w0 base g m0 s W) (hl : s.kept.length ≤ 1000000) (hf : s.files.length ≤ 1000000)
    (v1 v2 v3 v4 v5 : Value) (hb : w0.heap[bb]? = some (.cells #[.pointer (some ⟨gk, 0, none⟩)] 51)) (hbn : ¬ Sto.Mut g m0 bb) (hk : w0.heap[gk]? = some (.cells #[.pointer (some ⟨g, 0, none⟩), v1, v2, v3, v4, v5] 93)) (hkn : ¬ Sto.Mut g m0 gk)
    (hs : w0.heap[bn]? = some (.cells #[.string ⟨n.toArray⟩] 9)) (hsn : ¬ Sto.Mut g m0 bn) :
    Calls Tryz.prog 152 #[.pointer (some ⟨bb, 0, none⟩), .pointer (some ⟨bn, 0, none⟩)] W fun e W' => e = .returned (.int .i64 (Sto.create s n).1) ∧ StK w0 base g m0 (Sto.create s n).2 W' := by
  obtain ⟨S, hS⟩ : ∃ S, S = (⟨n.toArray⟩ : ByteArray) := ⟨_, rfl⟩
  rw [← hS] at hs
  have HCELL : Hid (∀ (X : World) (s' : Sto.St), StK w0 base g m0 s' X → X.cell? ⟨bb, 0, none⟩ = some (.pointer (some ⟨gk, 0, none⟩)) ∧ X.cell? ⟨gk, 0, none⟩ = some (.pointer (some ⟨g, 0, none⟩)) ∧ X.cell? ⟨bn, 0, none⟩ = some (.string S)) := Lib.hid (fun X s' h => by
    have e1 := (h.keep (Array.getElem?_eq_some_iff.1 hb).1 hbn).trans hb
    have e2 := (h.keep (Array.getElem?_eq_some_iff.1 hk).1 hkn).trans hk
    have e3 := (h.keep (Array.getElem?_eq_some_iff.1 hs).1 hsn).trans hs
    exact ⟨box_cell e1, by rw [cell_of_row _ _ _ _ _ (0, 0) e2]; rfl, box_cell e3⟩)
  clear hb hk hs hbn hkn hsn
  go_enter Tryz.func152, Tryz.ntmps152
  go_wp2_with fail
  obtain ⟨V, hV⟩ : ∃ V, V = W.drew := ⟨_, rfl⟩
  have HK : Hid (StK w0 base g m0 s V) := Lib.hid (by
    obtain ⟨m, h1, h2⟩ := h
    have hb : Below W.heap.size W V := by rw [hV]; exact (Below.refl _ _).drew
    exact ⟨m, h1.below hb, h2.trans (Sto.Aft.of_below hb)⟩)
  have KC := Lib.hid (HK.out.op (fun m hm => Sto.create_any n hn V base g s m hm hl hf))
  rw [← hS] at KC
  have hy := HCELL.out V s HK.out
  clear h hS
  refine wp_region_E 6 (fun w' => w'.cell? ⟨bb, 0, none⟩ = some (.pointer (some ⟨gk, 0, none⟩)) ∧ w'.cell? ⟨gk, 0, none⟩ = some (.pointer (some ⟨g, 0, none⟩)) ∧ w'.cell? ⟨bn, 0, none⟩ = some (.string S)) (by kernel_rfl) ?_
  rw [← hV]
  clear hV
  refine wpAnyE_take (i := 0) (v := ?_) rfl (by kernel_rfl) (by kernel_rfl) (by kernel_rfl) (by kernel_rfl) (fun _ _ _ h => h) (Or.inl ⟨by rfl, ?_⟩) hy ?_
  rotate_left
  · (intro wy hSw; obtain ⟨hs1, hs2, hs3⟩ := hSw; go_simp; try with_reducible rfl)
  try simp only [Act.put, List.setIfInBounds_toArray]
  refine wpAnyE_take (i := 1) (v := ?_) rfl (by kernel_rfl) (by kernel_rfl) (by kernel_rfl) (by kernel_rfl) (fun _ _ _ h => h) (Or.inl ⟨by rfl, ?_⟩) hy ?_
  rotate_left
  · (intro wy hSw; obtain ⟨hs1, hs2, hs3⟩ := hSw; go_simp; try with_reducible rfl)
  try simp only [Act.put]
  refine wpAnyE_take (i := 2) (v := ?_) rfl (by kernel_rfl) (by kernel_rfl) (by kernel_rfl) (by kernel_rfl) (fun _ _ _ h => h) (Or.inl ⟨by rfl, ?_⟩) hy ?_
  rotate_left
  · (intro wy hSw; obtain ⟨hs1, hs2, hs3⟩ := hSw; go_simp; try with_reducible rfl)
  try simp only [Act.put]
  refine wpAnyE_take (i := 3) (v := ?_) rfl (by kernel_rfl) (by kernel_rfl) (by kernel_rfl) (by kernel_rfl) (fun _ _ _ h => h) (Or.inl ⟨by rfl, ?_⟩) hy ?_
  rotate_left
  · (intro wy hSw; obtain ⟨hs1, hs2, hs3⟩ := hSw; go_simp; try with_reducible rfl)
  try simp only [Act.put]
  refine wpAnyE_take (i := 4) (v := ?_) rfl (by kernel_rfl) (by kernel_rfl) (by kernel_rfl) (by kernel_rfl) (fun _ _ _ h => h) (Or.inl ⟨by rfl, ?_⟩) hy ?_
  rotate_left
  · (intro wy hSw; obtain ⟨hs1, hs2, hs3⟩ := hSw; go_simp; try with_reducible rfl)
  try simp only [Act.put]
  simp only [List.getElem_toArray, List.getElem_cons_succ, List.getElem_cons_zero, List.setIfInBounds_toArray, List.set_cons_succ, List.set_cons_zero]
  refine wpAnyE_one (i := 5) (by kernel_rfl) rfl (fun K hK => ?_)
  refine step_call2_dv (by rfl) (some 8) (by rfl) (.tmp 6) (.tmp 7) (by rfl) (.pointer (some ⟨g, 0, none⟩)) (.string S) rfl rfl (enters_of Tryz.func104 (by kernel_rfl) rfl) _ KC.out ?_
  rintro e w2 ⟨rfl, h2⟩
  have hy2 := HCELL.out w2 _ h2
  have H2 := Lib.hid h2
  refine ⟨_, rfl, ?_⟩
  refine hK _ _ hy2 ?_
  clear h2
  simp only [Act.put, List.setIfInBounds_toArray, List.set_cons_succ, List.set_cons_zero]
  refine wpAnyE_last (by kernel_rfl) (by kernel_rfl) rfl (fun K hK => ?_)
  go_simp
  refine hK _ _ ?_
  go_wp2_with fail
  go_ret
  exact ⟨rfl, H2.out⟩
set_option maxHeartbeats 1000000 in
set_option maxRecDepth 100000 in
theorem write2_any (w0 W : World) (base g bb gk bn bc : Nat) (m0 : Sto.Mem) (s : Sto.St) (n : Sto.Str) (hn : n.length ≤ maxLen) (h : StK w0 base g m0 s W) (hf : s.files.length ≤ 1000000)
    (v1 v2 v3 v4 v5 : Value) (hb : w0.heap[bb]? = some (.cells #[.pointer (some ⟨gk, 0, none⟩)] 51)) (hbn : ¬ Sto.Mut g m0 bb) (hk : w0.heap[gk]? = some (.cells #[.pointer (some ⟨g, 0, none⟩), v1, v2, v3, v4, v5] 93)) (hkn : ¬ Sto.Mut g m0 gk)
    (hs : w0.heap[bn]? = some (.cells #[.string ⟨n.toArray⟩] 9)) (hsn : ¬ Sto.Mut g m0 bn)
    (cA : Option Addr) (cc : Nat) (b : List UInt8) (hcb : w0.heap[bc]? = some (.cells #[.slice cA b.length cc] 34)) (hcbn : ¬ Sto.Mut g m0 bc) (hcr : RdB w0 w0.heap.size cA b) (hcn : ∀ q, blk cA = some q → q < w0.heap.size ∧ ¬ Sto.Mut g m0 q) :
    Calls Tryz.prog 153 #[.pointer (some ⟨bb, 0, none⟩), .pointer (some ⟨bn, 0, none⟩), .pointer (some ⟨bc, 0, none⟩)] W fun e W' => e = .returned (.int .i64 (Sto.append s n b).1) ∧ StK w0 base g m0 (Sto.append s n b).2 W' := by
  obtain ⟨S, hS⟩ : ∃ S, S = (⟨n.toArray⟩ : ByteArray) := ⟨_, rfl⟩
  rw [← hS] at hs
  have HCELL : Hid (∀ (X : World) (s' : Sto.St), StK w0 base g m0 s' X → X.cell? ⟨bb, 0, none⟩ = some (.pointer (some ⟨gk, 0, none⟩)) ∧ X.cell? ⟨gk, 0, none⟩ = some (.pointer (some ⟨g, 0, none⟩)) ∧ X.cell? ⟨bn, 0, none⟩ = some (.string S) ∧ X.cell? ⟨bc, 0, none⟩ = some (.slice cA b.length cc)) := Lib.hid (fun X s' h => by
    have e1 := (h.keep (Array.getElem?_eq_some_iff.1 hb).1 hbn).trans hb
    have e2 := (h.keep (Array.getElem?_eq_some_iff.1 hk).1 hkn).trans hk
    have e3 := (h.keep (Array.getElem?_eq_some_iff.1 hs).1 hsn).trans hs
    have e4 := (h.keep (Array.getElem?_eq_some_iff.1 hcb).1 hcbn).trans hcb
    exact ⟨box_cell e1, by rw [cell_of_row _ _ _ _ _ (0, 0) e2]; rfl, box_cell e3, box_cell e4⟩)
  have HCR := Lib.hid hcr
  have HCN := Lib.hid hcn
  clear hb hk hs hbn hkn hsn hcb hcbn hcr hcn
  go_enter Tryz.func153, Tryz.ntmps153
  go_wp2_with fail
  obtain ⟨V, hV⟩ : ∃ V, V = W.drew := ⟨_, rfl⟩
  have HK : Hid (StK w0 base g m0 s V) := Lib.hid (by
    obtain ⟨m, h1, h2⟩ := h
    have hb : Below W.heap.size W V := by rw [hV]; exact (Below.refl _ _).drew
    exact ⟨m, h1.below hb, h2.trans (Sto.Aft.of_below hb)⟩)
  have HRV : Hid (RdB V V.heap.size cA b) := Lib.hid (by
    obtain ⟨m, h1, h2⟩ := HK.out
    exact rdB_keepS HCR.out h2.size (fun q e _ => HK.out.keep (HCN.out q e).1 (HCN.out q e).2))
  have KC := Lib.hid (HK.out.opA (fun m hm ha => Sto.append_any n hn cA cc b hm (HRV.out) (fun q e => ⟨Nat.lt_of_lt_of_le (HCN.out q e).1 ha.size, fun hmu => (HCN.out q e).2 (ha.turn q (HCN.out q e).1 hmu)⟩) hf))
  rw [← hS] at KC
  have hy := HCELL.out V s HK.out
  clear h hS
  refine wp_region_E 7 (fun w' => w'.cell? ⟨bb, 0, none⟩ = some (.pointer (some ⟨gk, 0, none⟩)) ∧ w'.cell? ⟨gk, 0, none⟩ = some (.pointer (some ⟨g, 0, none⟩)) ∧ w'.cell? ⟨bn, 0, none⟩ = some (.string S) ∧ w'.cell? ⟨bc, 0, none⟩ = some (.slice cA b.length cc)) (by kernel_rfl) ?_
  rw [← hV]
  clear hV
  refine wpAnyE_take (i := 0) (v := ?_) rfl (by kernel_rfl) (by kernel_rfl) (by kernel_rfl) (by kernel_rfl) (fun _ _ _ h => h) (Or.inl ⟨by rfl, ?_⟩) hy ?_
  rotate_left
  · (intro wy hSw; obtain ⟨hs1, hs2, hs3, hs4⟩ := hSw; go_simp; try with_reducible rfl)
  try simp only [Act.put, List.setIfInBounds_toArray]
  refine wpAnyE_take (i := 1) (v := ?_) rfl (by kernel_rfl) (by kernel_rfl) (by kernel_rfl) (by kernel_rfl) (fun _ _ _ h => h) (Or.inl ⟨by rfl, ?_⟩) hy ?_
  rotate_left
  · (intro wy hSw; obtain ⟨hs1, hs2, hs3, hs4⟩ := hSw; go_simp; try with_reducible rfl)
  try simp only [Act.put]
  refine wpAnyE_take (i := 2) (v := ?_) rfl (by kernel_rfl) (by kernel_rfl) (by kernel_rfl) (by kernel_rfl) (fun _ _ _ h => h) (Or.inl ⟨by rfl, ?_⟩) hy ?_
  rotate_left
  · (intro wy hSw; obtain ⟨hs1, hs2, hs3, hs4⟩ := hSw; go_simp; try with_reducible rfl)
  try simp only [Act.put]
  refine wpAnyE_take (i := 3) (v := ?_) rfl (by kernel_rfl) (by kernel_rfl) (by kernel_rfl) (by kernel_rfl) (fun _ _ _ h => h) (Or.inl ⟨by rfl, ?_⟩) hy ?_
  rotate_left
  · (intro wy hSw; obtain ⟨hs1, hs2, hs3, hs4⟩ := hSw; go_simp; try with_reducible rfl)
  try simp only [Act.put]
  refine wpAnyE_take (i := 4) (v := ?_) rfl (by kernel_rfl) (by kernel_rfl) (by kernel_rfl) (by kernel_rfl) (fun _ _ _ h => h) (Or.inl ⟨by rfl, ?_⟩) hy ?_
  rotate_left
  · (intro wy hSw; obtain ⟨hs1, hs2, hs3, hs4⟩ := hSw; go_simp; try with_reducible rfl)
  try simp only [Act.put]
  refine wpAnyE_take (i := 5) (v := ?_) rfl (by kernel_rfl) (by kernel_rfl) (by kernel_rfl) (by kernel_rfl) (fun _ _ _ h => h) (Or.inl ⟨by rfl, ?_⟩) hy ?_
  rotate_left
  · (intro wy hSw; obtain ⟨hs1, hs2, hs3, hs4⟩ := hSw; go_simp; try with_reducible rfl)
  try simp only [Act.put]
  simp only [List.getElem_toArray, List.getElem_cons_succ, List.getElem_cons_zero, List.setIfInBounds_toArray, List.set_cons_succ, List.set_cons_zero]
  refine wpAnyE_one (i := 6) (by kernel_rfl) rfl (fun K hK => ?_)
  refine step_call3_dv (by rfl) (some 10) (by rfl) (.tmp 7) (.tmp 8) (.tmp 9) (by rfl) (.pointer (some ⟨g, 0, none⟩)) (.string S) (.slice cA b.length cc) rfl rfl rfl (enters_of Tryz.func119 (by kernel_rfl) rfl) _ KC.out ?_
  rintro e w2 ⟨rfl, h2⟩
  have hy2 := HCELL.out w2 _ h2
  have H2 := Lib.hid h2
  refine ⟨_, rfl, ?_⟩
  refine hK _ _ hy2 ?_
  clear h2
  simp only [Act.put, List.setIfInBounds_toArray, List.set_cons_succ, List.set_cons_zero]
  refine wpAnyE_last (by kernel_rfl) (by kernel_rfl) rfl (fun K hK => ?_)
  go_simp
  refine hK _ _ ?_
  go_wp2_with fail
  go_ret
  exact ⟨rfl, H2.out⟩
set_option maxHeartbeats 1000000 in
set_option maxRecDepth 100000 in
theorem write3_any (w0 W : World) (base g bb gk bn : Nat) (m0 : Sto.Mem) (s : Sto.St) (n : Sto.Str) (hn : n.length ≤ maxLen) (h : StK w0 base g m0 s W)
    (v1 v2 v3 v4 v5 : Value) (hb : w0.heap[bb]? = some (.cells #[.pointer (some ⟨gk, 0, none⟩)] 51)) (hbn : ¬ Sto.Mut g m0 bb) (hk : w0.heap[gk]? = some (.cells #[.pointer (some ⟨g, 0, none⟩), v1, v2, v3, v4, v5] 93)) (hkn : ¬ Sto.Mut g m0 gk)
    (hs : w0.heap[bn]? = some (.cells #[.string ⟨n.toArray⟩] 9)) (hsn : ¬ Sto.Mut g m0 bn) :
    Calls Tryz.prog 154 #[.pointer (some ⟨bb, 0, none⟩), .pointer (some ⟨bn, 0, none⟩)] W fun e W' => e = .returned (.int .i64 (Sto.sync s n).1) ∧ StK w0 base g m0 (Sto.sync s n).2 W' := by
  obtain ⟨S, hS⟩ : ∃ S, S = (⟨n.toArray⟩ : ByteArray) := ⟨_, rfl⟩
  rw [← hS] at hs
  have HCELL : Hid (∀ (X : World) (s' : Sto.St), StK w0 base g m0 s' X → X.cell? ⟨bb, 0, none⟩ = some (.pointer (some ⟨gk, 0, none⟩)) ∧ X.cell? ⟨gk, 0, none⟩ = some (.pointer (some ⟨g, 0, none⟩)) ∧ X.cell? ⟨bn, 0, none⟩ = some (.string S)) := Lib.hid (fun X s' h => by
    have e1 := (h.keep (Array.getElem?_eq_some_iff.1 hb).1 hbn).trans hb
    have e2 := (h.keep (Array.getElem?_eq_some_iff.1 hk).1 hkn).trans hk
    have e3 := (h.keep (Array.getElem?_eq_some_iff.1 hs).1 hsn).trans hs
    exact ⟨box_cell e1, by rw [cell_of_row _ _ _ _ _ (0, 0) e2]; rfl, box_cell e3⟩)
  clear hb hk hs hbn hkn hsn
  go_enter Tryz.func154, Tryz.ntmps154
  go_wp2_with fail
  obtain ⟨V, hV⟩ : ∃ V, V = W.drew := ⟨_, rfl⟩
  have HK : Hid (StK w0 base g m0 s V) := Lib.hid (by
    obtain ⟨m, h1, h2⟩ := h
    have hb : Below W.heap.size W V := by rw [hV]; exact (Below.refl _ _).drew
    exact ⟨m, h1.below hb, h2.trans (Sto.Aft.of_below hb)⟩)
  have KC := Lib.hid (HK.out.op (fun m hm => Sto.sync_any n hn V base g s m hm))
  rw [← hS] at KC
  have hy := HCELL.out V s HK.out
  clear h hS
  refine wp_region_E 6 (fun w' => w'.cell? ⟨bb, 0, none⟩ = some (.pointer (some ⟨gk, 0, none⟩)) ∧ w'.cell? ⟨gk, 0, none⟩ = some (.pointer (some ⟨g, 0, none⟩)) ∧ w'.cell? ⟨bn, 0, none⟩ = some (.string S)) (by kernel_rfl) ?_
  rw [← hV]
  clear hV
  refine wpAnyE_take (i := 0) (v := ?_) rfl (by kernel_rfl) (by kernel_rfl) (by kernel_rfl) (by kernel_rfl) (fun _ _ _ h => h) (Or.inl ⟨by rfl, ?_⟩) hy ?_
  rotate_left
  · (intro wy hSw; obtain ⟨hs1, hs2, hs3⟩ := hSw; go_simp; try with_reducible rfl)
  try simp only [Act.put, List.setIfInBounds_toArray]
  refine wpAnyE_take (i := 1) (v := ?_) rfl (by kernel_rfl) (by kernel_rfl) (by kernel_rfl) (by kernel_rfl) (fun _ _ _ h => h) (Or.inl ⟨by rfl, ?_⟩) hy ?_
  rotate_left
  · (intro wy hSw; obtain ⟨hs1, hs2, hs3⟩ := hSw; go_simp; try with_reducible rfl)
  try simp only [Act.put]
  refine wpAnyE_take (i := 2) (v := ?_) rfl (by kernel_rfl) (by kernel_rfl) (by kernel_rfl) (by kernel_rfl) (fun _ _ _ h => h) (Or.inl ⟨by rfl, ?_⟩) hy ?_
  rotate_left
  · (intro wy hSw; obtain ⟨hs1, hs2, hs3⟩ := hSw; go_simp; try with_reducible rfl)
  try simp only [Act.put]
  refine wpAnyE_take (i := 3) (v := ?_) rfl (by kernel_rfl) (by kernel_rfl) (by kernel_rfl) (by kernel_rfl) (fun _ _ _ h => h) (Or.inl ⟨by rfl, ?_⟩) hy ?_
  rotate_left
  · (intro wy hSw; obtain ⟨hs1, hs2, hs3⟩ := hSw; go_simp; try with_reducible rfl)
  try simp only [Act.put]
  refine wpAnyE_take (i := 4) (v := ?_) rfl (by kernel_rfl) (by kernel_rfl) (by kernel_rfl) (by kernel_rfl) (fun _ _ _ h => h) (Or.inl ⟨by rfl, ?_⟩) hy ?_
  rotate_left
  · (intro wy hSw; obtain ⟨hs1, hs2, hs3⟩ := hSw; go_simp; try with_reducible rfl)
  try simp only [Act.put]
  simp only [List.getElem_toArray, List.getElem_cons_succ, List.getElem_cons_zero, List.setIfInBounds_toArray, List.set_cons_succ, List.set_cons_zero]
  refine wpAnyE_one (i := 5) (by kernel_rfl) rfl (fun K hK => ?_)
  refine step_call2_dv (by rfl) (some 8) (by rfl) (.tmp 6) (.tmp 7) (by rfl) (.pointer (some ⟨g, 0, none⟩)) (.string S) rfl rfl (enters_of Tryz.func121 (by kernel_rfl) rfl) _ KC.out ?_
  rintro e w2 ⟨rfl, h2⟩
  have hy2 := HCELL.out w2 _ h2
  have H2 := Lib.hid h2
  refine ⟨_, rfl, ?_⟩
  refine hK _ _ hy2 ?_
  clear h2
  simp only [Act.put, List.setIfInBounds_toArray, List.set_cons_succ, List.set_cons_zero]
  refine wpAnyE_last (by kernel_rfl) (by kernel_rfl) rfl (fun K hK => ?_)
  go_simp
  refine hK _ _ ?_
  go_wp2_with fail
  go_ret
  exact ⟨rfl, H2.out⟩
end Ver
end Go.Proofs.YtekbdedpombgcaaGreatDoor

namespace Go.Proofs.YtekbdedpombgcaaGreatDoor
open Go.RowKit Go.Maps

namespace Ver
/-- What write comes to. -/
def wrSteps (n : Sto.Str) (b : List UInt8) : List (Sto.St → Int × Sto.St) := [fun s => Sto.create s n, fun s => Sto.append s n b, fun s => Sto.sync s n]
def wr (s : Sto.St) (n : Sto.Str) (b : List UInt8) : Int × Sto.St := allP (wrSteps n b) s
theorem create_szv (s : Sto.St) (n : Sto.Str) : (Sto.create s n).2.files.length ≤ s.files.length + 1 ∧ (Sto.create s n).2.kept.length ≤ s.kept.length + 1 := by
  obtain ⟨h1, h2, _, _, _⟩ := Sto.meet_files s [n]
  unfold Sto.create
  simp only
  split
  · rw [h1, h2]; omega
  · split
    · rw [h1, h2]; omega
    · simp [Sto.change, h1, h2]
set_option maxHeartbeats 2000000 in
set_option maxRecDepth 100000 in
theorem write_any (W : World) (base g gk : Nat) (m : Sto.Mem) (s : Sto.St) (n : Sto.Str) (hn : n.length ≤ maxLen) (h : Sto.StAt W base g s m) (hl : s.kept.length ≤ 900000) (hf : s.files.length ≤ 900000)
    (v1 v2 v3 v4 v5 : Value) (hk : W.heap[gk]? = some (.cells #[.pointer (some ⟨g, 0, none⟩), v1, v2, v3, v4, v5] 93)) (hkn : ¬ Sto.Mut g m gk)
    (cA : Option Addr) (cc : Nat) (b : List UInt8) (hcr : RdB W W.heap.size cA b) (hcn : Sto.Apart W g m cA) :
    Calls Tryz.prog 74 #[.pointer (some ⟨gk, 0, none⟩), .string ⟨n.toArray⟩, .slice cA b.length cc] W (Sto.OpP W base g m (wr s n b)) := by
  obtain ⟨S, hS⟩ : ∃ S, S = (⟨n.toArray⟩ : ByteArray) := ⟨_, rfl⟩
  rw [← hS]
  have HS := Lib.hid hS
  have HKK := Lib.hid hk
  clear hS
  go_enter Tryz.func74, Tryz.ntmps74
  obtain ⟨w0, hw0⟩ : ∃ w0, w0 = (((W.alloc (.cells #[.pointer (some ⟨gk, 0, none⟩)] 51)).alloc (.cells #[.string S] 9)).alloc (.cells #[.slice cA b.length cc] 34)).alloc (.cells #[.func (.func 152) #[] #[.pointer (some ⟨W.heap.size, 0, none⟩), .pointer (some ⟨W.heap.size + 1, 0, none⟩)], .func (.func 153) #[] #[.pointer (some ⟨W.heap.size, 0, none⟩), .pointer (some ⟨W.heap.size + 1, 0, none⟩), .pointer (some ⟨W.heap.size + 1 + 1, 0, none⟩)], .func (.func 154) #[] #[.pointer (some ⟨W.heap.size, 0, none⟩), .pointer (some ⟨W.heap.size + 1, 0, none⟩)]] 100) := ⟨_, rfl⟩
  have hb0 : Below W.heap.size W w0 := by rw [hw0]; exact ((((Below.refl _ _).alloc (Nat.le_refl _) _).alloc (by simp) _).alloc (by simp <;> omega) _).alloc (by simp <;> omega) _
  have hx0 : w0.heap[W.heap.size]? = some (.cells #[.pointer (some ⟨gk, 0, none⟩)] 51) := by rw [hw0, Below.heap_alloc _ _ _ (by simp <;> omega), Below.heap_alloc _ _ _ (by simp <;> omega), Below.heap_alloc _ _ _ (by simp)]; exact heap_alloc_new W _
  have hx1 : w0.heap[W.heap.size + 1]? = some (.cells #[.string S] 9) := by
    rw [hw0, Below.heap_alloc _ _ _ (by simp <;> omega), Below.heap_alloc _ _ _ (by simp)]
    have := heap_alloc_new (W.alloc (.cells #[.pointer (some ⟨gk, 0, none⟩)] 51)) (.cells #[.string S] 9)
    simpa using this
  have hx2 : w0.heap[W.heap.size + 1 + 1]? = some (.cells #[.slice cA b.length cc] 34) := by
    rw [hw0, Below.heap_alloc _ _ _ (by simp)]
    have := heap_alloc_new ((W.alloc (.cells #[.pointer (some ⟨gk, 0, none⟩)] 51)).alloc (.cells #[.string S] 9)) (.cells #[.slice cA b.length cc] 34)
    simpa using this
  obtain ⟨fs, hfs⟩ : ∃ fs : List Fc, fs = [⟨152, [], [.pointer (some ⟨W.heap.size, 0, none⟩), .pointer (some ⟨W.heap.size + 1, 0, none⟩)]⟩, ⟨153, [], [.pointer (some ⟨W.heap.size, 0, none⟩), .pointer (some ⟨W.heap.size + 1, 0, none⟩), .pointer (some ⟨W.heap.size + 1 + 1, 0, none⟩)]⟩, ⟨154, [], [.pointer (some ⟨W.heap.size, 0, none⟩), .pointer (some ⟨W.heap.size + 1, 0, none⟩)]⟩] := ⟨_, rfl⟩
  have hx3 : w0.heap[W.heap.size + 1 + 1 + 1]? = some (.cells #[.func (.func 152) #[] #[.pointer (some ⟨W.heap.size, 0, none⟩), .pointer (some ⟨W.heap.size + 1, 0, none⟩)], .func (.func 153) #[] #[.pointer (some ⟨W.heap.size, 0, none⟩), .pointer (some ⟨W.heap.size + 1, 0, none⟩), .pointer (some ⟨W.heap.size + 1 + 1, 0, none⟩)], .func (.func 154) #[] #[.pointer (some ⟨W.heap.size, 0, none⟩), .pointer (some ⟨W.heap.size + 1, 0, none⟩)]] 100) := by
    rw [hw0]
    have := heap_alloc_new (((W.alloc (.cells #[.pointer (some ⟨gk, 0, none⟩)] 51)).alloc (.cells #[.string S] 9)).alloc (.cells #[.slice cA b.length cc] 34)) (.cells #[.func (.func 152) #[] #[.pointer (some ⟨W.heap.size, 0, none⟩), .pointer (some ⟨W.heap.size + 1, 0, none⟩)], .func (.func 153) #[] #[.pointer (some ⟨W.heap.size, 0, none⟩), .pointer (some ⟨W.heap.size + 1, 0, none⟩), .pointer (some ⟨W.heap.size + 1 + 1, 0, none⟩)], .func (.func 154) #[] #[.pointer (some ⟨W.heap.size, 0, none⟩), .pointer (some ⟨W.heap.size + 1, 0, none⟩)]] 100)
    simpa using this
  have hz0 : w0.heap.size = W.heap.size + 4 := by rw [hw0]; simp
  have hnm : ∀ q, W.heap.size ≤ q → ¬ Sto.Mut g m q := fun q hq hmu => by have := (h.r.mut_ge hmu).2; omega
  have KA := Lib.hid (all_any (σ := Sto.St) fs (wrSteps n b) (by rw [hfs]; rfl) (fun k y X => StK w0 base g m y X ∧ (k = 0 → y = s) ∧ (k = 1 → y = (Sto.create s n).2) ∧ (k = 2 → y = (Sto.append (Sto.create s n).2 n b).2)) (some ⟨W.heap.size + 1 + 1 + 1, 0, none⟩) 3 s w0 ⟨⟨m, h.below hb0, Sto.Aft.of_below (Below.refl _ _)⟩, fun _ => rfl, by omega, by omega⟩ (by rw [hfs]; simp)
    (fun k y X hX => by
      have e := (hX.1.keep (by omega) (hnm _ (by omega))).trans hx3
      subst hfs
      refine RdS.of (f := F1) (n := 1) (fun _ => rfl) _ 0 (Array.getElem?_eq_some_iff.1 e).1 (fun k hk j u hj => ?_)
      have hj0 : j = 0 := by
        rcases j with _ | j
        · rfl
        · simp [F1] at hj
      subst hj0
      rw [cell_of_row _ _ _ _ _ (0, 0) e]
      rcases k with _ | _ | _ | k
      · simpa [F1, Fc.val] using hj
      · simpa [F1, Fc.val] using hj
      · simpa [F1, Fc.val] using hj
      · exfalso; simp only [List.length_cons, List.length_nil] at hk; omega)
    (fun f hf args w => by
      subst hfs
      simp only [List.mem_cons, List.not_mem_nil, or_false] at hf
      rcases hf with rfl | rfl | rfl <;> rfl)
    (fun k hk y X hX => by
      obtain ⟨hS1, i0, i1, i2⟩ := hX
      subst hfs
      have hkk : w0.heap[gk]? = some (.cells #[.pointer (some ⟨g, 0, none⟩), v1, v2, v3, v4, v5] 93) := (hb0.block gk (Array.getElem?_eq_some_iff.1 HKK.out).1).trans HKK.out
      have hx1' := hx1
      rw [HS.out] at hx1'
      rcases k with _ | _ | _ | k
      · have e := i0 rfl
        subst e
        exact (write1_any w0 X base g _ gk _ m y n hn hS1 (by omega) (by omega) v1 v2 v3 v4 v5 hx0 (hnm _ (by omega)) hkk hkn hx1' (hnm _ (by omega))).mono fun e W' ⟨h1, h2⟩ => ⟨h1, h2, by omega, fun _ => rfl, by omega⟩
      · have e := i1 rfl
        subst e
        exact (write2_any w0 X base g _ gk _ _ m _ n hn hS1 (by have := (create_szv s n).1; omega) v1 v2 v3 v4 v5 hx0 (hnm _ (by omega)) hkk hkn hx1' (hnm _ (by omega)) cA cc b hx2 (hnm _ (by omega)) ((hcr.below hb0 (Nat.le_refl _)).more hb0.size) (fun q e => ⟨Nat.lt_of_lt_of_le (hcn q e).1 hb0.size, (hcn q e).2⟩)).mono fun e W' ⟨h1, h2⟩ => ⟨h1, h2, by omega, by omega, fun _ => rfl⟩
      · have e := i2 rfl
        subst e
        exact (write3_any w0 X base g _ gk _ m _ n hn hS1 v1 v2 v3 v4 v5 hx0 (hnm _ (by omega)) hkk hkn hx1' (hnm _ (by omega))).mono fun e W' ⟨h1, h2⟩ => ⟨h1, h2, by omega, by omega, by omega⟩
      · exfalso; simp only [List.length_cons, List.length_nil] at hk; omega))
  clear hx0 hx1 hx2 hx3 hnm
  have e3 : fs.length = 3 := by rw [hfs]; rfl
  rw [e3] at KA
  have HB0 := Lib.hid hb0
  rw [hw0] at KA HB0
  clear hw0 hfs hb0 hz0 hk
  go_wp2_with fail
  refine KA.out.mono ?_
  rintro e w9 ⟨rfl, j, hst, -⟩
  have H9 := Lib.hid hst
  clear hst KA
  go_wp2_with fail
  go_ret
  obtain ⟨m9, h1, h2⟩ := H9.out
  exact ⟨rfl, m9, h1, (Sto.Aft.of_below HB0.out).trans h2⟩
end Ver
end Go.Proofs.YtekbdedpombgcaaGreatDoor

namespace Go.Proofs.YtekbdedpombgcaaGreatDoor
open Go.RowKit Go.Maps

namespace Ver
set_option maxHeartbeats 1000000 in
set_option maxRecDepth 100000 in
theorem begin1_any (w0 W : World) (base g bb gk bc : Nat) (m0 : Sto.Mem) (s : Sto.St) (n : Sto.Str) (hn : n.length ≤ maxLen) (h : StK w0 base g m0 s W) (hl : s.kept.length ≤ 900000) (hf : s.files.length ≤ 900000)
    (v2 v3 v4 v5 : Value) (hb : w0.heap[bb]? = some (.cells #[.pointer (some ⟨gk, 0, none⟩)] 51)) (hbn : ¬ Sto.Mut g m0 bb) (hk : w0.heap[gk]? = some (.cells #[.pointer (some ⟨g, 0, none⟩), .string ⟨n.toArray⟩, v2, v3, v4, v5] 93)) (hkn : ¬ Sto.Mut g m0 gk)
    (cA : Option Addr) (cc : Nat) (b : List UInt8) (hcb : w0.heap[bc]? = some (.cells #[.slice cA b.length cc] 34)) (hcbn : ¬ Sto.Mut g m0 bc) (hcr : RdB w0 w0.heap.size cA b) (hcn : ∀ q, blk cA = some q → q < w0.heap.size ∧ ¬ Sto.Mut g m0 q) :
    Calls Tryz.prog 73 #[.pointer (some ⟨bb, 0, none⟩), .pointer (some ⟨bc, 0, none⟩)] W fun e W' => e = .returned (.int .i64 (wr s n b).1) ∧ StK w0 base g m0 (wr s n b).2 W' := by
  obtain ⟨x, hx⟩ : ∃ x, x = wr s n b := ⟨_, rfl⟩
  have HKE : Hid (∀ (X : World) (s' : Sto.St), StK w0 base g m0 s' X → X.heap[gk]? = some (.cells #[.pointer (some ⟨g, 0, none⟩), .string ⟨n.toArray⟩, v2, v3, v4, v5] 93)) := Lib.hid (fun X s' h => (h.keep (Array.getElem?_eq_some_iff.1 hk).1 hkn).trans hk)
  have HGL : Hid (gk < w0.heap.size) := Lib.hid (Array.getElem?_eq_some_iff.1 hk).1
  obtain ⟨S, hS⟩ : ∃ S, S = (⟨n.toArray⟩ : ByteArray) := ⟨_, rfl⟩
  have HCELL : Hid (∀ (X : World) (s' : Sto.St), StK w0 base g m0 s' X → X.cell? ⟨bb, 0, none⟩ = some (.pointer (some ⟨gk, 0, none⟩)) ∧ X.cell? ⟨gk, 1, none⟩ = some (.string S) ∧ X.cell? ⟨bc, 0, none⟩ = some (.slice cA b.length cc)) := Lib.hid (fun X s' h => by
    have e1 := (h.keep (Array.getElem?_eq_some_iff.1 hb).1 hbn).trans hb
    have e2 := HKE.out X s' h
    rw [← hS] at e2
    have e4 := (h.keep (Array.getElem?_eq_some_iff.1 hcb).1 hcbn).trans hcb
    exact ⟨box_cell e1, by rw [cell_of_row _ _ _ _ _ (0, 0) e2]; rfl, box_cell e4⟩)
  have HCR := Lib.hid hcr
  have HCN := Lib.hid hcn
  have HKN := Lib.hid hkn
  clear hb hk hbn hkn hcb hcbn hcr hcn
  go_enter Tryz.func73, Tryz.ntmps73
  go_wp2_with fail
  obtain ⟨V, hV⟩ : ∃ V, V = W.drew := ⟨_, rfl⟩
  have HK : Hid (StK w0 base g m0 s V) := Lib.hid (by
    obtain ⟨m, h1, h2⟩ := h
    have hb : Below W.heap.size W V := by rw [hV]; exact (Below.refl _ _).drew
    exact ⟨m, h1.below hb, h2.trans (Sto.Aft.of_below hb)⟩)
  have HRV : Hid (RdB V V.heap.size cA b) := Lib.hid (by
    obtain ⟨m, h1, h2⟩ := HK.out
    exact rdB_keepS HCR.out h2.size (fun q e _ => HK.out.keep (HCN.out q e).1 (HCN.out q e).2))
  have KC := Lib.hid (HK.out.opA (fun m hm ha => write_any V base g gk m s n hn hm hl hf _ v2 v3 v4 v5 (HKE.out V s HK.out) (fun hmu => HKN.out (ha.turn gk HGL.out hmu)) cA cc b HRV.out (fun q e => ⟨Nat.lt_of_lt_of_le (HCN.out q e).1 ha.size, fun hmu => (HCN.out q e).2 (ha.turn q (HCN.out q e).1 hmu)⟩)))
  rw [← hS, ← hx] at KC
  have hy := HCELL.out V s HK.out
  have HX := Lib.hid hx
  clear h hS hx
  refine wp_region_E 7 (fun w' => w'.cell? ⟨bb, 0, none⟩ = some (.pointer (some ⟨gk, 0, none⟩)) ∧ w'.cell? ⟨gk, 1, none⟩ = some (.string S) ∧ w'.cell? ⟨bc, 0, none⟩ = some (.slice cA b.length cc)) (by kernel_rfl) ?_
  rw [← hV]
  clear hV
  refine wpAnyE_take (i := 0) (v := ?_) rfl (by kernel_rfl) (by kernel_rfl) (by kernel_rfl) (by kernel_rfl) (fun _ _ _ h => h) (Or.inl ⟨by rfl, ?_⟩) hy ?_
  rotate_left
  · (intro wy hSw; obtain ⟨hs1, hs2, hs3⟩ := hSw; go_simp; try with_reducible rfl)
  try simp only [Act.put, List.setIfInBounds_toArray]
  refine wpAnyE_take (i := 1) (v := ?_) rfl (by kernel_rfl) (by kernel_rfl) (by kernel_rfl) (by kernel_rfl) (fun _ _ _ h => h) (Or.inl ⟨by rfl, ?_⟩) hy ?_
  rotate_left
  · (intro wy hSw; obtain ⟨hs1, hs2, hs3⟩ := hSw; go_simp; try with_reducible rfl)
  try simp only [Act.put]
  refine wpAnyE_take (i := 2) (v := ?_) rfl (by kernel_rfl) (by kernel_rfl) (by kernel_rfl) (by kernel_rfl) (fun _ _ _ h => h) (Or.inl ⟨by rfl, ?_⟩) hy ?_
  rotate_left
  · (intro wy hSw; obtain ⟨hs1, hs2, hs3⟩ := hSw; go_simp; try with_reducible rfl)
  try simp only [Act.put]
  refine wpAnyE_take (i := 3) (v := ?_) rfl (by kernel_rfl) (by kernel_rfl) (by kernel_rfl) (by kernel_rfl) (fun _ _ _ h => h) (Or.inl ⟨by rfl, ?_⟩) hy ?_
  rotate_left
  · (intro wy hSw; obtain ⟨hs1, hs2, hs3⟩ := hSw; go_simp; try with_reducible rfl)
  try simp only [Act.put]
  refine wpAnyE_take (i := 4) (v := ?_) rfl (by kernel_rfl) (by kernel_rfl) (by kernel_rfl) (by kernel_rfl) (fun _ _ _ h => h) (Or.inl ⟨by rfl, ?_⟩) hy ?_
  rotate_left
  · (intro wy hSw; obtain ⟨hs1, hs2, hs3⟩ := hSw; go_simp; try with_reducible rfl)
  try simp only [Act.put]
  refine wpAnyE_take (i := 5) (v := ?_) rfl (by kernel_rfl) (by kernel_rfl) (by kernel_rfl) (by kernel_rfl) (fun _ _ _ h => h) (Or.inl ⟨by rfl, ?_⟩) hy ?_
  rotate_left
  · (intro wy hSw; obtain ⟨hs1, hs2, hs3⟩ := hSw; go_simp; try with_reducible rfl)
  try simp only [Act.put]
  simp only [List.getElem_toArray, List.getElem_cons_succ, List.getElem_cons_zero, List.setIfInBounds_toArray, List.set_cons_succ, List.set_cons_zero]
  refine wpAnyE_one (i := 6) (by kernel_rfl) rfl (fun K hK => ?_)
  refine step_call3_dv (by rfl) (some 9) (by rfl) (.tmp 3) (.tmp 7) (.tmp 8) (by rfl) (.pointer (some ⟨gk, 0, none⟩)) (.string S) (.slice cA b.length cc) rfl rfl rfl (enters_of Tryz.func74 (by kernel_rfl) rfl) _ KC.out ?_
  rintro e w2 ⟨rfl, h2⟩
  have hy2 := HCELL.out w2 _ h2
  have H2 := Lib.hid h2
  refine ⟨_, rfl, ?_⟩
  refine hK _ _ hy2 ?_
  clear h2
  simp only [Act.put, List.setIfInBounds_toArray, List.set_cons_succ, List.set_cons_zero]
  refine wpAnyE_last (by kernel_rfl) (by kernel_rfl) rfl (fun K hK => ?_)
  go_simp
  refine hK _ _ ?_
  go_wp2_with fail
  go_ret
  rw [← HX.out]
  exact ⟨rfl, H2.out⟩
def curB : List UInt8 := [99, 117, 114, 114, 101, 110, 116]
def newB : List UInt8 := [99, 117, 114, 114, 101, 110, 116, 46, 110, 101, 119]
set_option maxHeartbeats 1000000 in
set_option maxRecDepth 100000 in
theorem begin3_any (w0 W : World) (base g bb gk : Nat) (m0 : Sto.Mem) (s : Sto.St) (h : StK w0 base g m0 s W) (hl : s.kept.length ≤ 1000000) (hf : s.files.length ≤ 1000000)
    (v1 v2 v3 v4 v5 : Value) (hb : w0.heap[bb]? = some (.cells #[.pointer (some ⟨gk, 0, none⟩)] 51)) (hbn : ¬ Sto.Mut g m0 bb) (hk : w0.heap[gk]? = some (.cells #[.pointer (some ⟨g, 0, none⟩), v1, v2, v3, v4, v5] 93)) (hkn : ¬ Sto.Mut g m0 gk) :
    Calls Tryz.prog 76 #[.pointer (some ⟨bb, 0, none⟩)] W fun e W' => e = .returned (.int .i64 (Sto.rename s newB curB).1) ∧ StK w0 base g m0 (Sto.rename s newB curB).2 W' := by
  have c1 : W.cell? ⟨bb, 0, none⟩ = some (.pointer (some ⟨gk, 0, none⟩)) := box_cell ((h.keep (Array.getElem?_eq_some_iff.1 hb).1 hbn).trans hb)
  have c2 : W.cell? ⟨gk, 0, none⟩ = some (.pointer (some ⟨g, 0, none⟩)) := by
    rw [cell_of_row _ _ _ _ _ (0, 0) ((h.keep (Array.getElem?_eq_some_iff.1 hk).1 hkn).trans hk)]; rfl
  have KC := Lib.hid (h.op (fun m hm => Sto.rename_any newB curB (by decide) (by decide) W base g s m hm hl hf))
  clear h hb hbn hk hkn
  go_enter Tryz.func76, Tryz.ntmps76
  go_wp2_with fail
  refine KC.out.mono ?_
  rintro e w1 ⟨rfl, hs⟩
  have HS := Lib.hid hs
  clear hs c1 c2
  go_wp2_with fail
  go_ret
  exact ⟨rfl, HS.out⟩
/-- '[]byte(s)' at a step of a region that draws its order. -/
theorem step_conv_dv {P : Program} (w : World) {ops : Array Oper} {o : Oper} {a : Act} {K : Act → World → Prop} {Q : Exit → Act → World → Prop} {E : Prop} (hgd : o.guard = none) (d : Option Tmp) (hd : o.dst = d) (x : Operand) {t e st : TypeId} (T : BT P t e) (hst : P.underlying st = some .string)
    (ho : o.op = .convert st t x) (s : ByteArray) (hx : a.eval x = .string s)
    (h : ∀ cap w', RdB w' w'.heap.size (some ⟨w.heap.size, 0, none⟩) s.data.toList → Below w.heap.size w w' → w.heap.size < w'.heap.size → K (a.put d (.slice (some ⟨w.heap.size, 0, none⟩) s.size cap)) w') :
    if Region.wanted o (yielded ops a.tmps) = true then Oper.wp P o a w K Q else E := by
  subst hd
  have hw : Region.wanted o (yielded ops a.tmps) = true := by simp [Region.wanted, hgd]
  rw [if_pos hw]
  have hrun := run_bytes_of_string (P := P) w st t e s hst T.sl T.el
  unfold Oper.wp execOp
  simp only [ho, hx, Sem.run_bind, hrun, Result.andThen, Sem.run_pure]
  refine h _ _ ?_ ?_ ?_
  · refine RdB.more (rdB_bytesRow w s _ e _) ?_
    simp
  · have k := ((Below.refl w.heap.size w).drew).alloc (o := .cells (bytesRow s (grownCap w s.size 0 e)) e ((bytesRow s (grownCap w s.size 0 e)).size, (bytesRow s (grownCap w s.size 0 e)).size + 1)) (Nat.le_refl _)
    exact k
  · simp
set_option maxHeartbeats 1000000 in
set_option maxRecDepth 100000 in
theorem begin2_any (w0 W : World) (base g bb gk : Nat) (m0 : Sto.Mem) (s : Sto.St) (n : Sto.Str) (h : StK w0 base g m0 s W) (hl : s.kept.length ≤ 900000) (hf : s.files.length ≤ 900000)
    (v2 v3 v4 v5 : Value) (hb : w0.heap[bb]? = some (.cells #[.pointer (some ⟨gk, 0, none⟩)] 51)) (hbn : ¬ Sto.Mut g m0 bb) (hk : w0.heap[gk]? = some (.cells #[.pointer (some ⟨g, 0, none⟩), .string ⟨n.toArray⟩, v2, v3, v4, v5] 93)) (hkn : ¬ Sto.Mut g m0 gk) :
    Calls Tryz.prog 75 #[.pointer (some ⟨bb, 0, none⟩)] W fun e W' => e = .returned (.int .i64 (wr s newB n).1) ∧ StK w0 base g m0 (wr s newB n).2 W' := by
  obtain ⟨x, hx⟩ : ∃ x, x = wr s newB n := ⟨_, rfl⟩
  have HKE : Hid (∀ (X : World) (s' : Sto.St), StK w0 base g m0 s' X → X.heap[gk]? = some (.cells #[.pointer (some ⟨g, 0, none⟩), .string ⟨n.toArray⟩, v2, v3, v4, v5] 93)) := Lib.hid (fun X s' h => (h.keep (Array.getElem?_eq_some_iff.1 hk).1 hkn).trans hk)
  have HGL : Hid (gk < w0.heap.size) := Lib.hid (Array.getElem?_eq_some_iff.1 hk).1
  obtain ⟨S, hS⟩ : ∃ S, S = (⟨n.toArray⟩ : ByteArray) := ⟨_, rfl⟩
  have HCELL : Hid (∀ (X : World) (s' : Sto.St), StK w0 base g m0 s' X → X.cell? ⟨bb, 0, none⟩ = some (.pointer (some ⟨gk, 0, none⟩)) ∧ X.cell? ⟨gk, 1, none⟩ = some (.string S)) := Lib.hid (fun X s' h => by
    have e1 := (h.keep (Array.getElem?_eq_some_iff.1 hb).1 hbn).trans hb
    have e2 := HKE.out X s' h
    rw [← hS] at e2
    exact ⟨box_cell e1, by rw [cell_of_row _ _ _ _ _ (0, 0) e2]; rfl⟩)
  have HKN := Lib.hid hkn
  clear hb hk hbn hkn
  go_enter Tryz.func75, Tryz.ntmps75
  go_wp2_with fail
  obtain ⟨V, hV⟩ : ∃ V, V = W.drew := ⟨_, rfl⟩
  have HK : Hid (StK w0 base g m0 s V) := Lib.hid (by
    obtain ⟨m, h1, h2⟩ := h
    have hb : Below W.heap.size W V := by rw [hV]; exact (Below.refl _ _).drew
    exact ⟨m, h1.below hb, h2.trans (Sto.Aft.of_below hb)⟩)
  have hy := HCELL.out V s HK.out
  have HX := Lib.hid hx
  have HS := Lib.hid hS
  clear h hS hx
  refine wp_region_E 7 (fun w' => w'.cell? ⟨bb, 0, none⟩ = some (.pointer (some ⟨gk, 0, none⟩)) ∧ w'.cell? ⟨gk, 1, none⟩ = some (.string S)) (by kernel_rfl) ?_
  rw [← hV]
  clear hV
  refine wpAnyE_take (i := 0) (v := ?_) rfl (by kernel_rfl) (by kernel_rfl) (by kernel_rfl) (by kernel_rfl) (fun _ _ _ h => h) (Or.inl ⟨by rfl, ?_⟩) hy ?_
  rotate_left
  · (intro wy hSw; obtain ⟨hs1, hs2⟩ := hSw; go_simp; try with_reducible rfl)
  try simp only [Act.put, List.setIfInBounds_toArray]
  refine wpAnyE_take (i := 1) (v := ?_) rfl (by kernel_rfl) (by kernel_rfl) (by kernel_rfl) (by kernel_rfl) (fun _ _ _ h => h) (Or.inl ⟨by rfl, ?_⟩) hy ?_
  rotate_left
  · (intro wy hSw; obtain ⟨hs1, hs2⟩ := hSw; go_simp; try with_reducible rfl)
  try simp only [Act.put]
  refine wpAnyE_take (i := 2) (v := ?_) rfl (by kernel_rfl) (by kernel_rfl) (by kernel_rfl) (by kernel_rfl) (fun _ _ _ h => h) (Or.inl ⟨by rfl, ?_⟩) hy ?_
  rotate_left
  · (intro wy hSw; obtain ⟨hs1, hs2⟩ := hSw; go_simp; try with_reducible rfl)
  try simp only [Act.put]
  refine wpAnyE_take (i := 3) (v := ?_) rfl (by kernel_rfl) (by kernel_rfl) (by kernel_rfl) (by kernel_rfl) (fun _ _ _ h => h) (Or.inl ⟨by rfl, ?_⟩) hy ?_
  rotate_left
  · (intro wy hSw; obtain ⟨hs1, hs2⟩ := hSw; go_simp; try with_reducible rfl)
  try simp only [Act.put]
  refine wpAnyE_take (i := 4) (v := ?_) rfl (by kernel_rfl) (by kernel_rfl) (by kernel_rfl) (by kernel_rfl) (fun _ _ _ h => h) (Or.inl ⟨by rfl, ?_⟩) hy ?_
  rotate_left
  · (intro wy hSw; obtain ⟨hs1, hs2⟩ := hSw; go_simp; try with_reducible rfl)
  try simp only [Act.put]
  simp only [List.getElem_toArray, List.getElem_cons_succ, List.getElem_cons_zero, List.setIfInBounds_toArray, List.set_cons_succ, List.set_cons_zero]
  refine wpAnyE_one (i := 5) (by kernel_rfl) rfl (fun K hK => ?_)
  refine step_conv_dv V (by rfl) (some 7) (by rfl) (.tmp 6) bt Tryz.underlying9 (by rfl) S rfl ?_
  intro cap w1 hr1 hb1 hz1
  have HK1 : Hid (StK w0 base g m0 s w1) := Lib.hid (by
    obtain ⟨m, h1, h2⟩ := HK.out
    exact ⟨m, h1.below hb1, h2.trans (Sto.Aft.of_below hb1)⟩)
  have hsz : S.size = n.length := by rw [HS.out]; rfl
  have hr2 : RdB w1 w1.heap.size (some ⟨V.heap.size, 0, none⟩) n := by rw [HS.out] at hr1; exact hr1
  have KC : Hid (Calls Tryz.prog 74 #[.pointer (some ⟨gk, 0, none⟩), .string ⟨newB.toArray⟩, .slice (some ⟨V.heap.size, 0, none⟩) n.length cap] w1 fun e W' => e = .returned (.int .i64 (wr s newB n).1) ∧ StK w0 base g m0 (wr s newB n).2 W') := Lib.hid (by
    obtain ⟨m, h1, h2⟩ := HK.out
    exact (write_any w1 base g gk m s newB (by unfold newB maxLen; simp) (h1.below hb1) hl hf _ v2 v3 v4 v5 (HKE.out w1 s HK1.out) (fun hmu => HKN.out (h2.turn gk HGL.out hmu)) (some ⟨V.heap.size, 0, none⟩) cap n hr2 (fun q e => by
      have e : V.heap.size = q := by simpa [blk] using e
      subst e
      exact ⟨hz1, fun hmu => by have := (h1.r.mut_ge hmu).2; omega⟩)).mono fun e W' ⟨e1, m', h3, h4⟩ => ⟨e1, m', h3, (h2.trans (Sto.Aft.of_below hb1)).trans h4⟩)
  rw [← HX.out, ← hsz] at KC
  refine hK _ _ (HCELL.out w1 s HK1.out) ?_
  simp only [Act.put, List.setIfInBounds_toArray, List.set_cons_succ, List.set_cons_zero]
  refine wpAnyE_one (i := 6) (by kernel_rfl) rfl (fun K hK => ?_)
  refine step_call3_dv (by rfl) (some 8) (by rfl) (.tmp 2) (.const (.string ⟨newB.toArray⟩)) (.tmp 7) (by rfl) (.pointer (some ⟨gk, 0, none⟩)) (.string ⟨newB.toArray⟩) (.slice (some ⟨V.heap.size, 0, none⟩) S.size cap) rfl rfl rfl (enters_of Tryz.func74 (by kernel_rfl) rfl) _ KC.out ?_
  rintro e w2 ⟨rfl, h2⟩
  have hy2 := HCELL.out w2 _ h2
  have H2 := Lib.hid h2
  refine ⟨_, rfl, ?_⟩
  refine hK _ _ hy2 ?_
  clear h2 hr1 hb1 hz1 hr2 hsz
  simp only [Act.put, List.setIfInBounds_toArray, List.set_cons_succ, List.set_cons_zero]
  refine wpAnyE_last (by kernel_rfl) (by kernel_rfl) rfl (fun K hK => ?_)
  go_simp
  refine hK _ _ ?_
  go_wp2_with fail
  go_ret
  rw [← HX.out]
  exact ⟨rfl, H2.out⟩
end Ver
end Go.Proofs.YtekbdedpombgcaaGreatDoor

namespace Go.Proofs.YtekbdedpombgcaaGreatDoor
open Go.RowKit Go.Maps

/-- The table of strconv, below some block. -/
def TabU (B : Nat) (w : World) : Prop := ∃ w0, Tab w0 ∧ w0.heap.size ≤ B ∧ Below w0.heap.size w0 w
theorem TabU.tab {B : Nat} {w : World} (h : TabU B w) : Tab w := by
  obtain ⟨w0, h1, _, h3⟩ := h
  exact h1.below h3
theorem TabU.of {w : World} (h : Tab w) : TabU w.heap.size w := ⟨w, h, Nat.le_refl _, Below.refl _ _⟩
theorem TabU.keep {B : Nat} {w w' : World} (h : TabU B w) (hb : Below B w w') : TabU B w' := by
  obtain ⟨w0, h1, h2, h3⟩ := h
  exact ⟨w0, h1, h2, h3.trans (hb.mono h2)⟩
theorem TabU.mono {B C : Nat} {w : World} (h : TabU B w) (hc : B ≤ C) : TabU C w := by
  obtain ⟨w0, h1, h2, h3⟩ := h
  exact ⟨w0, h1, Nat.le_trans h2 hc, h3⟩
theorem TabU.aft {w w' : World} {base g : Nat} {s : Sto.St} {m m' : Sto.Mem} (h : TabU base w) (hs : Sto.StR w base g s m) (ha : Sto.Aft w w' g m m') : TabU base w' := h.keep (ha.below hs)

namespace Ver
def manB : List UInt8 := [109, 97, 110, 45]
def tabB : List UInt8 := [116, 97, 98, 45]
/-- Two strings, the same or not. -/
theorem str2 {a b : Sto.Str} {S R : ByteArray} (hS : (⟨a.toArray⟩ : ByteArray) = S) (hR : (⟨b.toArray⟩ : ByteArray) = R) : (a = b ∧ S = R ∧ (S.toList == R.toList) = true ∧ (S.toList != R.toList) = false) ∨ (a ≠ b ∧ (S.toList == R.toList) = false ∧ (S.toList != R.toList) = true) := by
  by_cases h : a = b
  · subst h
    have e : S = R := hS.symm.trans hR
    subst e
    exact .inl ⟨rfl, rfl, by simp, by simp⟩
  · have h1 := str_ne hS hR h
    exact .inr ⟨h, h1, by rw [bne, h1]; rfl⟩
set_option maxHeartbeats 1000000 in
set_option maxRecDepth 100000 in
theorem sindex_any (A : Option Addr) (c : Nat) (l : List Sto.Str) (n : Sto.Str) (w : World) (h : RdS Sto.S1 1 w w.heap.size A l) (hl : l.length ≤ 9000000000000000) :
    Calls Tryz.prog 64 #[.slice A l.length c, .string ⟨n.toArray⟩] w fun e w' => ∃ i : Int, e = .returned (.int .i64 i) ∧ (0 ≤ i ↔ n ∈ l) ∧ w' = w := by
  have H := Lib.hid h
  clear h
  obtain ⟨N, hN⟩ : ∃ N, (⟨n.toArray⟩ : ByteArray) = N := ⟨_, rfl⟩
  rw [hN]
  have HN := Lib.hid hN
  clear hN
  go_enter Tryz.func64, Tryz.ntmps64
  go_wp2_with fail
  go_loop [8] (fun i => ∃ k : Nat, i = .int .i64 (k : Int) ∧ k ≤ l.length ∧ Hid (n ∉ l.take k)) (fun i => l.length - (intOf i).toNat)
  case atStart => exact ⟨0, rfl, by omega, Lib.hid (by simp)⟩
  case round =>
    obtain ⟨k, rfl, hk, HP⟩ := hrel
    by_cases hlt : k < l.length
    · have hlt' : (k : Int) < (l.length : Int) := by omega
      have hk0 : (0 : Int) ≤ (k : Int) := by omega
      obtain ⟨b, off, hA, hb, hc⟩ := RdS.row (f := Sto.S1) (n := 1) (fun _ => rfl) (by omega) H.out (by omega)
      have c0 := hc k hlt 0 _ rfl
      rw [Nat.add_zero, Nat.mul_one] at c0
      unfold Sto.str at c0
      have HK : Hid (l.take (k + 1) = l.take k ++ [l[k]]) := Lib.hid (List.take_succ_eq_append_getElem hlt)
      have HM : Hid (l[k] ∈ l) := Lib.hid (List.getElem_mem hlt)
      obtain ⟨q, hq⟩ : ∃ q, q = l[k] := ⟨_, rfl⟩
      rw [← hq] at c0 HK HM
      obtain ⟨S, hS⟩ : ∃ S, (⟨q.toArray⟩ : ByteArray) = S := ⟨_, rfl⟩
      rw [hS] at c0
      subst hA
      clear hq hc
      rcases str2 HN.out hS with ⟨h1, rfl, h3, h4⟩ | ⟨h1, h3, h4⟩
      · have HE : Hid (n ∈ l) := Lib.hid (h1 ▸ HM.out)
        clear h1 hS HK
        go_wp2_with fail
        go_ret
        exact ⟨_, rfl, ⟨fun _ => HE.out, fun _ => by omega⟩, rfl⟩
      · have HQ := Lib.hid h1
        clear h1 hS
        go_wp2_with fail
        go_round
        case rel => exact ⟨k + 1, by simp, hlt, Lib.hid (by
          rw [HK.out]
          intro hm
          rcases List.mem_append.1 hm with hm | hm
          · exact HP.out hm
          · exact HQ.out (List.mem_singleton.1 hm))⟩
        case measure => simp [intOf]; omega
    · have hlt' : ¬ (k : Int) < (l.length : Int) := by omega
      have HE : Hid (n ∉ l) := Lib.hid (by
        have h9 := HP.out
        rwa [List.take_of_length_le (by omega)] at h9)
      go_wp2_with fail
      go_ret
      exact ⟨_, rfl, ⟨fun h => by omega, fun h => absurd h HE.out⟩, rfl⟩
set_option maxHeartbeats 1000000 in
set_option maxRecDepth 100000 in
theorem scontains_any (A : Option Addr) (c : Nat) (l : List Sto.Str) (n : Sto.Str) (w : World) (h : RdS Sto.S1 1 w w.heap.size A l) (hl : l.length ≤ 9000000000000000) :
    Calls Tryz.prog 27 #[.slice A l.length c, .string ⟨n.toArray⟩] w fun e w' => e = .returned (.bool (decide (n ∈ l))) ∧ w' = w := by
  have KI := Lib.hid (sindex_any A c l n w h hl)
  clear h
  go_enter Tryz.func27, Tryz.ntmps27
  go_wp2_with fail
  refine KI.out.mono ?_
  rintro e w1 ⟨i, rfl, hi, rfl⟩
  have HI := Lib.hid hi
  clear hi
  go_wp2_with fail
  go_ret
  have e : decide (0 ≤ i) = decide (n ∈ l) := by rw [decide_eq_decide]; exact HI.out
  exact ⟨by rw [← e]; rfl, rfl⟩
/-- A block of the book's. -/
theorem not_foot_book {w : World} {base g k : Nat} {s : Sto.St} {m : Sto.Mem} (h : Sto.StAt w base g s m) (ht : Sto.Tag w k 93) : ¬ Sto.Foot w g m k :=
  h.not_foot ht (by decide) (by decide) (by decide) (by decide) (by decide) (fun e => absurd e (by decide))
/-- What an operation of the book does to memory: as the store's, and its own block. -/
structure AftB (w w' : World) (g gk : Nat) (m m' : Sto.Mem) : Prop where
  os : w'.os = w.os
  tape : w'.tape = w.tape
  output : w'.output = w.output
  size : w.heap.size ≤ w'.heap.size
  block : ∀ k, k < w.heap.size → ¬ Sto.Mut g m k → k ≠ gk → w'.heap[k]? = w.heap[k]?
  turn : ∀ k, k < w.heap.size → Sto.Mut g m' k → Sto.Mut g m k
  pa : ∀ k, k < w.heap.size → blk m'.PA = some k → blk m.PA = some k
theorem AftB.of {w w' : World} {g gk : Nat} {m m' : Sto.Mem} (h : Sto.Aft w w' g m m') : AftB w w' g gk m m' := ⟨h.os, h.tape, h.output, h.size, fun k h1 h2 _ => h.block k h1 h2, h.turn, h.pa⟩
theorem AftB.trans {w w1 w' : World} {g gk : Nat} {m m1 m' : Sto.Mem} (h1 : AftB w w1 g gk m m1) (h2 : AftB w1 w' g gk m1 m') : AftB w w' g gk m m' :=
  ⟨h2.os.trans h1.os, h2.tape.trans h1.tape, h2.output.trans h1.output, Nat.le_trans h1.size h2.size, fun k hk hn hg => (h2.block k (Nat.lt_of_lt_of_le hk h1.size) (fun hm => hn (h1.turn k hk hm)) hg).trans (h1.block k hk hn hg),
    fun k hk hm => h1.turn k hk (h2.turn k (Nat.lt_of_lt_of_le hk h1.size) hm), fun k hk hm => h1.pa k hk (h2.pa k (Nat.lt_of_lt_of_le hk h1.size) hm)⟩
theorem AftB.set (w : World) (g gk j : Nat) (m : Sto.Mem) (v : Value) : AftB w (w.setCell ⟨gk, j, none⟩ v) g gk m m :=
  ⟨rfl, rfl, rfl, by simp [World.setCell], fun _ _ _ h => Below.heap_setCell _ _ _ _ h, fun _ _ h => h, fun _ _ h => h⟩
theorem StAt_set {w : World} {base g gk : Nat} {s : Sto.St} {m : Sto.Mem} (h : Sto.StAt w base g s m) (ht : Sto.Tag w gk 93) (j : Nat) (v : Value) : Sto.StAt (w.setCell ⟨gk, j, none⟩ v) base g s m :=
  h.keep (by simp [World.setCell]) (fun k _ hf => Below.heap_setCell _ _ _ _ (fun e => by subst e; exact not_foot_book h ht hf))
/-- The files of a state are not in the store's own blocks. -/
def OffV (g : Nat) (m : Sto.Mem) (A : Option Addr) (l : List Vf) : Prop := ∀ q, (blk A = some q ∨ ∃ v ∈ l, blk v.FA = some q ∨ blk v.LA = some q) → ¬ Sto.Mut g m q
theorem owV_lt {w : World} {bs c : Nat} {A : Option Addr} {l : List Vf} (h : OwV w bs A c l) {q : Nat} (e : blk A = some q ∨ ∃ v ∈ l, blk v.FA = some q ∨ blk v.LA = some q) : bs ≤ q ∧ q < w.heap.size := by
  rcases e with e | ⟨v, hv, e⟩
  · exact h.row.blk_ge q e
  · exact ⟨((h.own v hv).at_ e).1, ((h.own v hv).at_ e).2.lt⟩
theorem owV_ne {w : World} {bs c gk : Nat} {A : Option Addr} {l : List Vf} (h : OwV w bs A c l) (ht : Sto.Tag w gk 93) {q : Nat} (e : blk A = some q ∨ ∃ v ∈ l, blk v.FA = some q ∨ blk v.LA = some q) : q ≠ gk := by
  rcases e with e | ⟨v, hv, e⟩
  · exact (Sto.ownTagS h.row e).ne ht (by decide)
  · exact ((h.own v hv).at_ e).2.ne ht (by decide)
theorem owV_aftB {w w' : World} {bs c g gk : Nat} {m m' : Sto.Mem} {A : Option Addr} {l : List Vf} (h : OwV w bs A c l) (hn : OffV g m A l) (ht : Sto.Tag w gk 93) (ha : AftB w w' g gk m m') : OwV w' bs A c l :=
  h.keep ha.size (fun q e => ha.block q (owV_lt h e).2 (hn q e) (owV_ne h ht e))
/-- Sizes behind write, rename, remove, syncDir. -/
theorem append_szv (s : Sto.St) (n : Sto.Str) (b : List UInt8) : (Sto.append s n b).2.files.length = s.files.length ∧ (Sto.append s n b).2.kept.length = s.kept.length := by
  obtain ⟨h1, h2, _, _, _⟩ := Sto.meet_files s [n]
  unfold Sto.append
  simp only
  split
  · rw [h1, h2]; exact ⟨rfl, rfl⟩
  · split
    · simp [h1, h2]
    · split
      · simp [h1, h2]
      · simp [Sto.setF, h1, h2]
theorem sync_szv (s : Sto.St) (n : Sto.Str) : (Sto.sync s n).2.files.length = s.files.length ∧ (Sto.sync s n).2.kept.length = s.kept.length := by
  obtain ⟨h1, h2, _, _, _⟩ := Sto.meet_files s [n]
  unfold Sto.sync
  simp only
  split
  · rw [h1, h2]; exact ⟨rfl, rfl⟩
  · split
    · simp [h1, h2]
    · simp [Sto.setF, h1, h2]
theorem wr_szv (s : Sto.St) (n : Sto.Str) (b : List UInt8) : (wr s n b).2.files.length ≤ s.files.length + 1 ∧ (wr s n b).2.kept.length ≤ s.kept.length + 1 := by
  have h1 := create_szv s n
  have h2 := append_szv (Sto.create s n).2 n b
  have h3 := sync_szv (Sto.append (Sto.create s n).2 n b).2 n
  have e : wr s n b = if (Sto.create s n).1 = 0 then (if (Sto.append (Sto.create s n).2 n b).1 = 0 then (if (Sto.sync (Sto.append (Sto.create s n).2 n b).2 n).1 = 0 then (0, (Sto.sync (Sto.append (Sto.create s n).2 n b).2 n).2) else Sto.sync (Sto.append (Sto.create s n).2 n b).2 n) else Sto.append (Sto.create s n).2 n b) else Sto.create s n := rfl
  rw [e]
  repeat' split
  all_goals (try simp only)
  all_goals omega
theorem remove_szv (s : Sto.St) (n : Sto.Str) : (Sto.remove s n).2.files.length = s.files.length ∧ (Sto.remove s n).2.kept.length ≤ s.kept.length + 1 := by
  obtain ⟨h1, h2, _, _, _⟩ := Sto.meet_files s [n]
  unfold Sto.remove
  simp only
  split
  · rw [h1, h2]; omega
  · split
    · simp [h1, h2]
    · simp [Sto.change, h1, h2]
end Ver
end Go.Proofs.YtekbdedpombgcaaGreatDoor

namespace Go.Proofs.YtekbdedpombgcaaGreatDoor
open Go.RowKit Go.Maps

namespace Ver
/-- The edit that a state is. -/
def edSt (s : Ss) : Ed := ⟨s.files, [], s.log, s.next⟩
def lastN (l : List Sto.Str) : Nat := l.foldl (fun a n => max a (nb manB n)) 0
def beginSteps (n : Sto.Str) (f : List UInt8) : List (Sto.St → Int × Sto.St) := [fun s => wr s n f, fun s => wr s newB n, fun s => Sto.rename s newB curB, fun s => Sto.syncDir s]
def cleared (s : Sto.St) : Int × Sto.St := if newB ∈ Sto.names s then Sto.remove s newB else (0, s)
/-- What begin comes to: its answer, the store, the list's name. -/
def beginP (s : Sto.St) (old : Sto.Str) (e : Ed) : (Int × Sto.St) × Sto.Str :=
  if (cleared s).1 ≠ 0 then (cleared s, old) else
  if 999999 ≤ lastN (Sto.names s) then ((2, (cleared s).2), old) else
  if 65536 < (frB e).length then ((2, (cleared s).2), nm manB (lastN (Sto.names s) + 1)) else
  (allP (beginSteps (nm manB (lastN (Sto.names s) + 1)) (Frm.put 69 (frB e))) (cleared s).2, nm manB (lastN (Sto.names s) + 1))
def bkObj (g : Nat) (n : Sto.Str) (A : Option Addr) (l : List Vf) (c : Nat) (log next : Int) (br : Bool) : Obj := .cells #[.pointer (some ⟨g, 0, none⟩), .string ⟨n.toArray⟩, .slice A l.length c, .int .i64 log, .int .i64 next, .bool br] 93
def BookP (w : World) (base g gk : Nat) (m : Sto.Mem) (A : Option Addr) (l : List Vf) (c : Nat) (log next : Int) (br : Bool) (p : (Int × Sto.St) × Sto.Str) (e : Ending) (w' : World) : Prop :=
  e = .returned (.int .i64 p.1.1) ∧ ∃ m', Sto.StAt w' base g p.1.2 m' ∧ AftB w w' g gk m m' ∧ w'.heap[gk]? = some (bkObj g p.2 A l c log next br)
theorem box_put {w : World} {B : Nat} {u v : Value} {T : TypeId} (h : w.heap[B]? = some (.cells #[u] T)) : (w.setCell ⟨B, 0, none⟩ v).heap[B]? = some (.cells #[v] T) := by
  have h9 := heap_setCell_same w B 0 _ T v h
  simpa using h9
theorem lastN_succ {l : List Sto.Str} {k : Nat} (hk : k < l.length) : lastN (l.take (k + 1)) = max (lastN (l.take k)) (nb manB l[k]) := by
  rw [List.take_succ_eq_append_getElem hk]
  unfold lastN
  rw [List.foldl_append]; rfl
set_option maxHeartbeats 2000000 in
set_option maxRecDepth 100000 in
theorem begin_any (w : World) (base bs g gk : Nat) (m : Sto.Mem) (s : Sto.St) (h : Sto.StAt w base g s m) (ht : TabU base w) (hl : s.kept.length ≤ 800000) (hf : s.files.length ≤ 800000)
    (old : Sto.Str) (A : Option Addr) (c : Nat) (l : List Vf) (log next : Int) (br : Bool) (hk : w.heap[gk]? = some (bkObj g old A l c log next br)) (hov : OwV w bs A c l) (hoff : OffV g m A l) (hll : l.length ≤ 1000000) :
    Calls Tryz.prog 31 #[.pointer (some ⟨gk, 0, none⟩)] w (BookP w base g gk m A l c log next br (beginP s old (edSt ⟨l.map Vf.fi, log, next⟩))) := by
  obtain ⟨p, hp⟩ : ∃ p, p = beginP s old (edSt ⟨l.map Vf.fi, log, next⟩) := ⟨_, rfl⟩
  rw [← hp]
  have HP := Lib.hid hp
  clear hp
  have hnl : (Sto.names s).length ≤ 800000 := by
    unfold Sto.names
    rw [List.length_map]
    exact Nat.le_trans h.r.ok.gnow.len hf
  obtain ⟨w1, hw1⟩ : ∃ w1, w1 = w.alloc (.cells #[.pointer (some ⟨gk, 0, none⟩)] 51) := ⟨_, rfl⟩
  have hb1 : Below w.heap.size w w1 := by rw [hw1]; exact (Below.refl _ _).alloc (Nat.le_refl _) _
  have hx1 : w1.heap[w.heap.size]? = some (.cells #[.pointer (some ⟨gk, 0, none⟩)] 51) := by rw [hw1]; exact heap_alloc_new w _
  have KN := Lib.hid (Sto.names_any (h.below hb1) (by omega))
  have HT1 := Lib.hid ht
  have HS0 := Lib.hid h
  have HK0 := Lib.hid hk
  have HB1 := Lib.hid hb1
  have HX1 := Lib.hid hx1
  have HOV := Lib.hid hov
  have HOF := Lib.hid hoff
  have q1 : w1.cell? ⟨w.heap.size, 0, none⟩ = some (.pointer (some ⟨gk, 0, none⟩)) := box_cell hx1
  have q2 : w1.cell? ⟨gk, 0, none⟩ = some (.pointer (some ⟨g, 0, none⟩)) := by
    rw [cell_of_row w1 _ 0 _ _ (0, 0) ((hb1.block gk (Array.getElem?_eq_some_iff.1 hk).1).trans hk)]; rfl
  rw [hw1] at KN q1 q2
  clear h ht hk hb1 hx1 hov hoff
  go_enter Tryz.func31, Tryz.ntmps31
  go_wp2_with fail
  refine KN.out.mono ?_
  rw [← hw1]
  rintro e w2 ⟨NA, nc, rfl, hno, hb2⟩
  have hbb : Below w.heap.size w w2 := HB1.out.trans (hb2.mono HB1.out.size)
  have hx2 : w2.heap[w.heap.size]? = some (.cells #[.pointer (some ⟨gk, 0, none⟩)] 51) := (hb2.block _ (Array.getElem?_eq_some_iff.1 HX1.out).1).trans HX1.out
  have hk2 : w2.heap[gk]? = some (bkObj g old A l c log next br) := (hbb.block _ (Array.getElem?_eq_some_iff.1 HK0.out).1).trans HK0.out
  have hs2 := HS0.out.below hbb
  have HNR := Lib.hid hno
  have KC := Lib.hid (scontains_any NA nc (Sto.names s) newB w2 hno.rd (by omega))
  have HB2 := Lib.hid hbb
  have HX2 := Lib.hid hx2
  have HK2 := Lib.hid hk2
  have HS2 := Lib.hid hs2
  have q3 : w2.cell? ⟨w.heap.size, 0, none⟩ = some (.pointer (some ⟨gk, 0, none⟩)) := box_cell hx2
  have q4 : w2.cell? ⟨gk, 0, none⟩ = some (.pointer (some ⟨g, 0, none⟩)) := by
    rw [cell_of_row w2 _ 0 _ _ (0, 0) hk2]; rfl
  obtain ⟨d, hd⟩ : ∃ d, d = decide (newB ∈ Sto.names s) := ⟨_, rfl⟩
  rw [← hd] at KC
  have HD := Lib.hid hd
  have KR := Lib.hid (Sto.remove_any newB (by unfold newB maxLen; simp) w2 base g s m hs2 (by omega))
  obtain ⟨r, hr⟩ : ∃ r, r = Sto.remove s newB := ⟨_, rfl⟩
  rw [← hr] at KR
  have HR := Lib.hid hr
  unfold newB at KC KR
  clear hbb hx2 hk2 hs2 hno hb2 q1 q2 hw1 hd hr
  go_wp2_with fail
  refine KC.out.mono ?_
  rintro e w9 ⟨rfl, rfl⟩
  clear KC KN
  go_upto_if 16 with fail
  go_cut [] (fun wx => ∃ s1 : Sto.St, Hid (cleared s = (0, s1)) ∧ Hid (StK w9 base g m s1 wx))
  case first =>
    rcases d with _ | _
    · go_wp2_with fail
      go_meet
      exact ⟨s, Lib.hid (if_neg (of_decide_eq_false HD.out.symm)), Lib.hid ⟨m, HS2.out, Sto.Aft.refl _ _ _⟩⟩
    · obtain ⟨r1, r2⟩ := r
      go_wp2_with fail
      refine KR.out.mono ?_
      rintro e w3 ⟨rfl, m3, hs3, ha3⟩
      have HC : Hid (cleared s = (r1, r2)) := Lib.hid (by unfold cleared; rw [if_pos (of_decide_eq_true HD.out.symm), ← HR.out])
      have HS3 := Lib.hid hs3
      have HA3 := Lib.hid ha3
      clear hs3 ha3 KR
      by_cases h0 : r1 = 0
      · subst h0
        go_wp2_with fail
        go_meet
        exact ⟨r2, HC, Lib.hid ⟨m3, HS3.out, HA3.out⟩⟩
      · have HE : Hid (p = ((r1, r2), old)) := Lib.hid (by rw [HP.out]; unfold beginP; rw [if_pos (by rw [HC.out]; exact h0), HC.out])
        go_wp2_with fail
        go_ret
        rw [HE.out]
        exact ⟨rfl, m3, HS3.out, (AftB.of (Sto.Aft.of_below HB2.out)).trans (AftB.of HA3.out), (HA3.out.block _ (Array.getElem?_eq_some_iff.1 HK2.out).1 (fun hm => not_foot_book HS2.out ⟨_, _, HK2.out⟩ (.inl hm))).trans HK2.out⟩
  case rest =>
    obtain ⟨s1, HC, HS1⟩ := hcut
    have HSZ : Hid (s1.files.length ≤ 800001 ∧ s1.kept.length ≤ 800001) := Lib.hid (by
      have h1 := HC.out
      unfold cleared at h1
      split at h1
      · have h2 := remove_szv s newB
        rw [h1] at h2
        simp only at h2
        omega
      · have h2 : s = s1 := congrArg Prod.snd h1
        subst h2
        omega)
    have HNM : Hid (∀ X s', StK w9 base g m s' X → RdS Sto.S1 1 X X.heap.size NA (Sto.names s) ∧ X.heap[w.heap.size]? = some (.cells #[.pointer (some ⟨gk, 0, none⟩)] 51) ∧ X.heap[gk]? = some (bkObj g old A l c log next br)) := Lib.hid (fun X s' hX => by
      have nm : ∀ q, w.heap.size ≤ q → ¬ Sto.Mut g m q := fun q hq hmu => by have := (HS0.out.r.mut_ge hmu).2; omega
      obtain ⟨mX, hx1, hx2⟩ := id hX
      refine ⟨(HNR.out.keep (fun q e => hX.keep (HNR.out.blk_ge q e).2 (nm q (Nat.le_trans HB1.out.size (HNR.out.blk_ge q e).1)))).rd, ?_, ?_⟩
      · exact (hX.keep (Array.getElem?_eq_some_iff.1 HX2.out).1 (nm _ (Nat.le_refl _))).trans HX2.out
      · exact (hX.keep (Array.getElem?_eq_some_iff.1 HK2.out).1 (fun hm => not_foot_book HS2.out ⟨_, _, HK2.out⟩ (.inl hm))).trans HK2.out)
    obtain ⟨L, hL⟩ : ∃ L, L = Sto.names s := ⟨_, rfl⟩
    have HL := Lib.hid hL
    rw [← hL] at HNM HNR hnl ⊢
    clear q3 q4 hL KR HR HD
    go_wp2_with fail
    go_loopw [5, 27] (fun a i wr => ∃ k : Nat, k ≤ L.length ∧ a = .int .i64 ((lastN (L.take k) : Nat) : Int) ∧ i = .int .i64 (k : Int) ∧ Hid (StK w9 base g m s1 wr)) (fun _ i _ => L.length - (intOf i).toNat)
    case atStart => exact ⟨0, by omega, rfl, rfl, HS1⟩
    case round =>
      obtain ⟨k, hk, rfl, rfl, HSR⟩ := hrel
      by_cases hlt : k < L.length
      · have hlt' : (k : Int) < (L.length : Int) := by omega
        have hk0 : (0 : Int) ≤ (k : Int) := by omega
        obtain ⟨b, off, hA, hb, hc⟩ := RdS.row (f := Sto.S1) (n := 1) (fun _ => rfl) (by omega) (HNM.out wr s1 HSR.out).1 (by omega)
        have c0 := hc k hlt 0 _ rfl
        rw [Nat.add_zero, Nat.mul_one] at c0
        unfold Sto.str at c0
        have KB := Lib.hid (numbered_any manB rfl L[k] wr)
        have HLS := Lib.hid (lastN_succ hlt)
        obtain ⟨q, hq⟩ : ∃ q, q = L[k] := ⟨_, rfl⟩
        rw [← hq] at c0 KB HLS
        obtain ⟨x, hx⟩ : ∃ x, x = lastN (L.take k) := ⟨_, rfl⟩
        rw [← hx] at HLS ⊢
        obtain ⟨y, hy⟩ : ∃ y, y = nb manB q := ⟨_, rfl⟩
        rw [← hy] at HLS KB
        obtain ⟨Q, hQ⟩ : ∃ Q, Q = (⟨q.toArray⟩ : ByteArray) := ⟨_, rfl⟩
        rw [← hQ] at KB c0
        subst hA
        unfold manB at KB
        clear hq hc hx hy hQ
        go_wp2_with fail
        refine KB.out.mono ?_
        rintro e w3 ⟨rfl, hb3⟩
        have HS3 : Hid (StK w9 base g m s1 w3) := Lib.hid (by
          obtain ⟨m1, h1, h2⟩ := HSR.out
          exact ⟨m1, h1.below hb3, h2.trans (Sto.Aft.of_below hb3)⟩)
        clear hb3 KB
        go_wp2_with fail
        exact ⟨⟨k + 1, hlt, by rw [HLS.out]; exact congrArg (Value.int .i64) (by omega), by simp, HS3⟩, by simp only [intOf]; omega⟩
      · have hlt' : ¬ (k : Int) < (L.length : Int) := by omega
        have hke : k = L.length := by omega
        subst hke
        rw [List.take_length]
        clear hlt hk
        obtain ⟨z, hz⟩ : ∃ z, z = lastN L := ⟨_, rfl⟩
        have HZ := Lib.hid hz
        rw [← hz]
        clear hz
        by_cases hbig : 999999 ≤ z
        · have hz1 : (999999 : Int) ≤ (z : Int) := by omega
          have HE : Hid (p = ((2, s1), old)) := Lib.hid (by rw [HP.out]; unfold beginP; rw [if_neg (by rw [HC.out]; simp), if_pos (by rw [← HL.out, ← HZ.out]; exact hbig), HC.out])
          go_wp2_with fail
          go_ret
          rw [HE.out]
          obtain ⟨m3, h1, h2⟩ := HSR.out
          exact ⟨rfl, m3, h1, (AftB.of (Sto.Aft.of_below HB2.out)).trans (AftB.of h2), (HNM.out _ _ HSR.out).2.2⟩
        · have hz1 : ¬ (999999 : Int) ≤ (z : Int) := by omega
          have HTB : Hid (∀ X s', StK w9 base g m s' X → TabU base X) := Lib.hid (fun X s' hX => by
            obtain ⟨mX, _, hx2⟩ := hX
            exact (HT1.out.keep (HB2.out.mono (by have := (HS0.out.r.mut_ge (.inl rfl)); omega))).aft HS2.out.r hx2)
          obtain ⟨n, hn⟩ : ∃ n, n = nm manB (z + 1) := ⟨_, rfl⟩
          have KNM : Hid (∀ X, TabU base X → Calls Tryz.prog 37 #[.string ⟨manB.toArray⟩, .int .i64 (IntKind.i64.wrap ((z : Int) + 1))] X fun e w' => e = .returned (.string ⟨n.toArray⟩) ∧ Below X.heap.size X w') := Lib.hid (fun X hX => by
            rw [show IntKind.i64.wrap ((z : Int) + 1) = ((z + 1 : Nat) : Int) by rw [IntKind.wrap_i64]; omega]
            exact named_any manB (z + 1) rfl (by omega) X hX.tab n hn)
          have HN := Lib.hid hn
          have hnlen : n.length ≤ maxLen := by rw [hn]; unfold nm manB maxLen; simp [Dig.digW_length]
          obtain ⟨N, hNN⟩ : ∃ N, N = (⟨n.toArray⟩ : ByteArray) := ⟨_, rfl⟩
          rw [← hNN] at KNM
          have HNN := Lib.hid hNN
          clear hn hNN
          go_wp2_with fail
          obtain ⟨V, hV⟩ : ∃ V, V = wr.drew := ⟨_, rfl⟩
          have HSV : Hid (StK w9 base g m s1 V) := Lib.hid (by
            obtain ⟨m1, h1, h2⟩ := HSR.out
            have hb : Below wr.heap.size wr V := by rw [hV]; exact (Below.refl _ _).drew
            exact ⟨m1, h1.below hb, h2.trans (Sto.Aft.of_below hb)⟩)
          have KC := Lib.hid (KNM.out V (HTB.out V _ HSV.out))
          have hy : V.cell? ⟨w.heap.size, 0, none⟩ = some (.pointer (some ⟨gk, 0, none⟩)) := box_cell (HNM.out V s1 HSV.out).2.1
          unfold manB at KC
          refine wp_region_E 6 (fun w' => w'.cell? ⟨w.heap.size, 0, none⟩ = some (.pointer (some ⟨gk, 0, none⟩))) (by kernel_rfl) ?_
          rw [← hV]
          clear hV HSR
          refine wpAnyE_take (i := 0) (v := ?_) rfl (by kernel_rfl) (by kernel_rfl) (by kernel_rfl) (by kernel_rfl) (fun _ _ _ h => h) (Or.inl ⟨by rfl, ?_⟩) hy ?_
          rotate_left
          · (intro wy hSw; go_simp; try with_reducible rfl)
          try simp only [Act.put, List.setIfInBounds_toArray]
          refine wpAnyE_take (i := 1) (v := ?_) rfl (by kernel_rfl) (by kernel_rfl) (by kernel_rfl) (by kernel_rfl) (fun _ _ _ h => h) (Or.inl ⟨by rfl, ?_⟩) hy ?_
          rotate_left
          · (intro wy hSw; go_simp; try with_reducible rfl)
          try simp only [Act.put]
          refine wpAnyE_take (i := 2) (v := ?_) rfl (by kernel_rfl) (by kernel_rfl) (by kernel_rfl) (by kernel_rfl) (fun _ _ _ h => h) (Or.inl ⟨by rfl, ?_⟩) hy ?_
          rotate_left
          · (intro wy hSw; go_simp; try with_reducible rfl)
          try simp only [Act.put]
          simp only [List.getElem_toArray, List.getElem_cons_succ, List.getElem_cons_zero, List.setIfInBounds_toArray, List.set_cons_succ, List.set_cons_zero]
          refine wpAnyE_one (i := 3) (by kernel_rfl) rfl (fun K hK => ?_)
          refine step_call2_dv (by rfl) (some 41) (by rfl) (.const (.string ⟨#[109, 97, 110, 45]⟩)) (.tmp 40) (by rfl) (.string ⟨#[109, 97, 110, 45]⟩) (.int .i64 (IntKind.i64.wrap ((z : Int) + 1))) rfl rfl (enters_of Tryz.func37 (by kernel_rfl) rfl) _ KC.out ?_
          rintro e w4 ⟨rfl, hb4⟩
          have HS4 : Hid (StK w9 base g m s1 w4) := Lib.hid (by
            obtain ⟨m1, h1, h2⟩ := HSV.out
            exact ⟨m1, h1.below hb4, h2.trans (Sto.Aft.of_below hb4)⟩)
          have hy4 : w4.cell? ⟨w.heap.size, 0, none⟩ = some (.pointer (some ⟨gk, 0, none⟩)) := box_cell (HNM.out w4 s1 HS4.out).2.1
          refine ⟨_, rfl, ?_⟩
          refine hK _ _ hy4 ?_
          clear hb4 hy hy4 KC
          have hbk := (HNM.out w4 s1 HS4.out).2.2
          have c1 : w4.cell? ⟨gk, 1, none⟩ = some (.string ⟨old.toArray⟩) := by rw [cell_of_row _ _ _ _ _ (0, 0) hbk]; rfl
          have f1 : w4.frozen? ⟨gk, 1, none⟩ = false := frozen_of_row w4 _ 1 _ _ hbk
          have HBK := Lib.hid hbk
          clear hbk
          simp only [Act.put, List.setIfInBounds_toArray, List.set_cons_succ, List.set_cons_zero]
          have hy5 : w4.cell? ⟨w.heap.size, 0, none⟩ = some (.pointer (some ⟨gk, 0, none⟩)) := box_cell (HNM.out w4 s1 HS4.out).2.1
          refine wpAnyE_one (i := 4) (by kernel_rfl) rfl (fun K hK => ?_)
          go_simp
          refine hK _ _ hy5 ?_
          clear hK K
          refine wpAnyE_one (i := 5) (by kernel_rfl) rfl (fun K hK => ?_)
          go_simp
          refine hK _ _ hy5 ?_
          clear hK K
          clear hy5
          refine wpAnyE_last (by kernel_rfl) (by kernel_rfl) rfl (fun K hK => ?_)
          go_simp
          refine hK _ _ ?_
          clear hK c1 f1
          obtain ⟨w5, hw5⟩ : ∃ w5, w5 = w4.setCell ⟨gk, 1, none⟩ (.string N) := ⟨_, rfl⟩
          rw [← hw5]
          have hk5 : w5.heap[gk]? = some (bkObj g n A l c log next br) := by
            have h9 := heap_setCell_same w4 gk 1 _ 93 (.string N) HBK.out
            rw [hw5, h9, HNN.out]; rfl
          have HK5 := Lib.hid hk5
          have HS5 : Hid (∃ m1, Sto.StAt w5 base g s1 m1 ∧ AftB w w5 g gk m m1 ∧ ¬ Sto.Mut g m1 w.heap.size) := Lib.hid (by
            obtain ⟨m1, h1, h2⟩ := HS4.out
            refine ⟨m1, by rw [hw5]; exact StAt_set h1 ⟨_, _, HBK.out⟩ _ _, ((AftB.of (Sto.Aft.of_below HB2.out)).trans (AftB.of h2)).trans (by rw [hw5]; exact AftB.set _ _ _ _ _ _), fun hm => ?_⟩
            have h9 := (HS0.out.r.mut_ge (h2.turn _ (Array.getElem?_eq_some_iff.1 HX2.out).1 hm)).2
            omega)
          have hb5 : w5.heap[w.heap.size]? = some (.cells #[.pointer (some ⟨gk, 0, none⟩)] 51) := by
            rw [hw5, Below.heap_setCell _ _ _ _ (Sto.Tag.ne ⟨_, _, (HNM.out w4 s1 HS4.out).2.1⟩ ⟨_, _, HBK.out⟩ (by decide))]
            exact (HNM.out w4 s1 HS4.out).2.1
          have HX5 := Lib.hid hb5
          clear hk5 hb5 hw5 HBK HS4 HSV
          obtain ⟨ed, hed⟩ : ∃ ed, ed = edSt ⟨l.map Vf.fi, log, next⟩ := ⟨_, rfl⟩
          have KF : Hid (∀ X, Below w5.heap.size w5 X → Calls Tryz.prog 72 #[.agg #[.slice A l.length c, .slice none 0 0, .int .i64 log, .int .i64 next]] X (SaysFr X ed)) := Lib.hid (fun X hX => by
            obtain ⟨m1, _, h2, _⟩ := HS5.out
            have ho := (owV_aftB HOV.out HOF.out ⟨_, _, HK0.out⟩ h2).below hX
            have := framed_any ⟨A, c, l, none, 0, [], log, next⟩ X ⟨ho.rd, RdS.nil⟩ hll (by simp)
            rw [hed]
            exact this)
          have HED := Lib.hid hed
          rw [← hed] at HP
          clear hed
          have hyw : ∀ X, Below w5.heap.size w5 X → X.cell? ⟨w.heap.size, 0, none⟩ = some (.pointer (some ⟨gk, 0, none⟩)) ∧ X.cell? ⟨gk, 2, none⟩ = some (.slice A l.length c) ∧ X.cell? ⟨gk, 3, none⟩ = some (.int .i64 log) ∧ X.cell? ⟨gk, 4, none⟩ = some (.int .i64 next) := fun X hX => by
            have h1 := (hX.block _ (Array.getElem?_eq_some_iff.1 HX5.out).1).trans HX5.out
            have h2 := (hX.block _ (Array.getElem?_eq_some_iff.1 HK5.out).1).trans HK5.out
            exact ⟨box_cell h1, by rw [cell_of_row X _ 2 _ _ (0, 0) h2]; rfl, by rw [cell_of_row X _ 3 _ _ (0, 0) h2]; rfl, by rw [cell_of_row X _ 4 _ _ (0, 0) h2]; rfl⟩
          have HYW := Lib.hid hyw
          clear hyw
          go_upto_region 15 with fail
          go_cut [8, 9] (fun v8 v9 wx => ∃ bc : Nat, v8 = .pointer (some ⟨bc, 0, none⟩) ∧ Hid (Below w5.heap.size w5 wx) ∧ ((65536 < (frB ed).length ∧ v9 = .int .i64 2) ∨ ((frB ed).length ≤ 65536 ∧ v9 = .int .i64 0 ∧ Hid (∃ FA fc, wx.heap[bc]? = some (.cells #[.slice FA (Frm.put 69 (frB ed)).length fc] 34) ∧ Own wx w5.heap.size 5 FA fc (Frm.put 69 (frB ed)) ∧ w5.heap.size ≤ bc))))
          case first =>
            obtain ⟨V, hV⟩ : ∃ V, V = w5.drew := ⟨_, rfl⟩
            have hbV : Below w5.heap.size w5 V := by rw [hV]; exact (Below.refl _ _).drew
            have HBV := Lib.hid hbV
            have hy := HYW.out V hbV
            refine wp_region_E 22 (fun w' => w'.cell? ⟨w.heap.size, 0, none⟩ = some (.pointer (some ⟨gk, 0, none⟩)) ∧ w'.cell? ⟨gk, 2, none⟩ = some (.slice A l.length c) ∧ w'.cell? ⟨gk, 3, none⟩ = some (.int .i64 log) ∧ w'.cell? ⟨gk, 4, none⟩ = some (.int .i64 next)) (by kernel_rfl) ?_
            rw [← hV]
            clear hV hbV
            refine wpAnyE_take (i := 0) (v := ?_) rfl (by kernel_rfl) (by kernel_rfl) (by kernel_rfl) (by kernel_rfl) (fun _ _ _ h => h) (Or.inl ⟨by rfl, ?_⟩) hy ?_
            rotate_left
            · (intro wy hSw; obtain ⟨hs1, hs2, hs3, hs4⟩ := hSw; go_simp; try with_reducible rfl)
            try simp only [Act.put, List.setIfInBounds_toArray]
            refine wpAnyE_take (i := 1) (v := ?_) rfl (by kernel_rfl) (by kernel_rfl) (by kernel_rfl) (by kernel_rfl) (fun _ _ _ h => h) (Or.inl ⟨by rfl, ?_⟩) hy ?_
            rotate_left
            · (intro wy hSw; obtain ⟨hs1, hs2, hs3, hs4⟩ := hSw; go_simp; try with_reducible rfl)
            try simp only [Act.put]
            refine wpAnyE_take (i := 2) (v := ?_) rfl (by kernel_rfl) (by kernel_rfl) (by kernel_rfl) (by kernel_rfl) (fun _ _ _ h => h) (Or.inl ⟨by rfl, ?_⟩) hy ?_
            rotate_left
            · (intro wy hSw; obtain ⟨hs1, hs2, hs3, hs4⟩ := hSw; go_simp; try with_reducible rfl)
            try simp only [Act.put]
            refine wpAnyE_take (i := 3) (v := ?_) rfl (by kernel_rfl) (by kernel_rfl) (by kernel_rfl) (by kernel_rfl) (fun _ _ _ h => h) (Or.inl ⟨by rfl, ?_⟩) hy ?_
            rotate_left
            · (intro wy hSw; obtain ⟨hs1, hs2, hs3, hs4⟩ := hSw; go_simp; try with_reducible rfl)
            try simp only [Act.put]
            refine wpAnyE_take (i := 4) (v := ?_) rfl (by kernel_rfl) (by kernel_rfl) (by kernel_rfl) (by kernel_rfl) (fun _ _ _ h => h) (Or.inl ⟨by rfl, ?_⟩) hy ?_
            rotate_left
            · (intro wy hSw; obtain ⟨hs1, hs2, hs3, hs4⟩ := hSw; go_simp; try with_reducible rfl)
            try simp only [Act.put]
            refine wpAnyE_take (i := 5) (v := ?_) rfl (by kernel_rfl) (by kernel_rfl) (by kernel_rfl) (by kernel_rfl) (fun _ _ _ h => h) (Or.inl ⟨by rfl, ?_⟩) hy ?_
            rotate_left
            · (intro wy hSw; obtain ⟨hs1, hs2, hs3, hs4⟩ := hSw; go_simp; try with_reducible rfl)
            try simp only [Act.put]
            refine wpAnyE_take (i := 6) (v := ?_) rfl (by kernel_rfl) (by kernel_rfl) (by kernel_rfl) (by kernel_rfl) (fun _ _ _ h => h) (Or.inl ⟨by rfl, ?_⟩) hy ?_
            rotate_left
            · (intro wy hSw; obtain ⟨hs1, hs2, hs3, hs4⟩ := hSw; go_simp; try with_reducible rfl)
            try simp only [Act.put]
            refine wpAnyE_take (i := 7) (v := ?_) rfl (by kernel_rfl) (by kernel_rfl) (by kernel_rfl) (by kernel_rfl) (fun _ _ _ h => h) (Or.inl ⟨by rfl, ?_⟩) hy ?_
            rotate_left
            · (intro wy hSw; obtain ⟨hs1, hs2, hs3, hs4⟩ := hSw; go_simp; try with_reducible rfl)
            try simp only [Act.put]
            refine wpAnyE_take (i := 8) (v := ?_) rfl (by kernel_rfl) (by kernel_rfl) (by kernel_rfl) (by kernel_rfl) (fun _ _ _ h => h) (Or.inl ⟨by rfl, ?_⟩) hy ?_
            rotate_left
            · (intro wy hSw; obtain ⟨hs1, hs2, hs3, hs4⟩ := hSw; go_simp; try with_reducible rfl)
            try simp only [Act.put]
            refine wpAnyE_take (i := 9) (v := ?_) rfl (by kernel_rfl) (by kernel_rfl) (by kernel_rfl) (by kernel_rfl) (fun _ _ _ h => h) (Or.inl ⟨by rfl, ?_⟩) hy ?_
            rotate_left
            · (intro wy hSw; obtain ⟨hs1, hs2, hs3, hs4⟩ := hSw; go_simp; try with_reducible rfl)
            try simp only [Act.put]
            refine wpAnyE_take (i := 10) (v := ?_) rfl (by kernel_rfl) (by kernel_rfl) (by kernel_rfl) (by kernel_rfl) (fun _ _ _ h => h) (Or.inl ⟨by rfl, ?_⟩) hy ?_
            rotate_left
            · (intro wy hSw; obtain ⟨hs1, hs2, hs3, hs4⟩ := hSw; go_simp; try with_reducible rfl)
            try simp only [Act.put]
            refine wpAnyE_take (i := 11) (v := ?_) rfl (by kernel_rfl) (by kernel_rfl) (by kernel_rfl) (by kernel_rfl) (fun _ _ _ h => h) (Or.inl ⟨by rfl, ?_⟩) hy ?_
            rotate_left
            · (intro wy hSw; obtain ⟨hs1, hs2, hs3, hs4⟩ := hSw; go_simp; try with_reducible rfl)
            try simp only [Act.put]
            refine wpAnyE_take (i := 12) (v := ?_) rfl (by kernel_rfl) (by kernel_rfl) (by kernel_rfl) (by kernel_rfl) (fun _ _ _ h => h) (Or.inl ⟨by rfl, ?_⟩) hy ?_
            rotate_left
            · (intro wy hSw; obtain ⟨hs1, hs2, hs3, hs4⟩ := hSw; go_simp; try with_reducible rfl)
            try simp only [Act.put]
            refine wpAnyE_take (i := 13) (v := ?_) rfl (by kernel_rfl) (by kernel_rfl) (by kernel_rfl) (by kernel_rfl) (fun _ _ _ h => h) (Or.inl ⟨by rfl, ?_⟩) hy ?_
            rotate_left
            · (intro wy hSw; obtain ⟨hs1, hs2, hs3, hs4⟩ := hSw; go_simp; try with_reducible rfl)
            try simp only [Act.put]
            refine wpAnyE_take (i := 14) (v := ?_) rfl (by kernel_rfl) (by kernel_rfl) (by kernel_rfl) (by kernel_rfl) (fun _ _ _ h => h) (Or.inl ⟨by rfl, ?_⟩) hy ?_
            rotate_left
            · (intro wy hSw; obtain ⟨hs1, hs2, hs3, hs4⟩ := hSw; go_simp; try with_reducible rfl)
            try simp only [Act.put]
            refine wpAnyE_take (i := 15) (v := ?_) rfl (by kernel_rfl) (by kernel_rfl) (by kernel_rfl) (by kernel_rfl) (fun _ _ _ h => h) (Or.inl ⟨by rfl, ?_⟩) hy ?_
            rotate_left
            · (intro wy hSw; obtain ⟨hs1, hs2, hs3, hs4⟩ := hSw; go_simp; try with_reducible rfl)
            try simp only [Act.put]
            simp only [List.getElem_toArray, List.getElem_cons_succ, List.getElem_cons_zero, List.setIfInBounds_toArray, List.set_cons_succ, List.set_cons_zero]
            refine wpAnyE_two (i := 16) (k := 20) (by kernel_rfl) rfl rfl (fun K hK => ?_) (fun K hK => ?_)
            · refine step_call1_dv (by rfl) (some 61) (by rfl) (.tmp 60) (by rfl) (.agg #[.slice A l.length c, .slice none 0 0, .int .i64 log, .int .i64 next]) rfl (enters_of Tryz.func72 (by kernel_rfl) rfl) _ (KF.out V HBV.out) ?_
              rintro e w6 ⟨hb6, hr⟩
              have hb6' : Below w5.heap.size w5 w6 := HBV.out.trans (hb6.mono HBV.out.size)
              have hy6 := HYW.out w6 hb6'
              obtain ⟨w7, hw7⟩ : ∃ w7, w7 = w6.alloc (.cells #[.slice none 0 0] 34) := ⟨_, rfl⟩
              have HB7 : Hid (Below w5.heap.size w5 w7) := Lib.hid (by rw [hw7]; exact hb6'.alloc hb6'.size _)
              have HBX : Hid (w7.heap[w6.heap.size]? = some (.cells #[.slice none 0 0] 34)) := Lib.hid (by rw [hw7]; exact heap_alloc_new w6 _)
              have HBL : Hid (w5.heap.size ≤ w6.heap.size) := Lib.hid hb6'.size
              have HVS : Hid (w5.heap.size ≤ V.heap.size) := Lib.hid HBV.out.size
              clear hb6 hb6' HBV KF hy
              rcases hr with ⟨hbg, rfl⟩ | ⟨hsm, FA, fc, rfl, ho⟩
              · refine ⟨_, rfl, ?_⟩
                refine hK _ _ hy6 ?_
                clear hK K
                simp only [Act.put, List.setIfInBounds_toArray, List.set_cons_succ, List.set_cons_zero]
                refine wpAnyE_take (i := 17) (v := ?_) rfl (by kernel_rfl) (by kernel_rfl) (by kernel_rfl) (by kernel_rfl) (fun _ _ _ h => h) (Or.inl ⟨by rfl, ?_⟩) hy6 ?_
                rotate_left
                · (intro wy hSw; obtain ⟨hs1, hs2, hs3, hs4⟩ := hSw; go_simp; try with_reducible rfl)
                try simp only [Act.put]
                refine wpAnyE_take (i := 18) (v := ?_) rfl (by kernel_rfl) (by kernel_rfl) (by kernel_rfl) (by kernel_rfl) (fun _ _ _ h => h) (Or.inl ⟨by rfl, ?_⟩) hy6 ?_
                rotate_left
                · (intro wy hSw; obtain ⟨hs1, hs2, hs3, hs4⟩ := hSw; go_simp; try with_reducible rfl)
                try simp only [Act.put]
                refine wpAnyE_take (i := 19) (v := ?_) rfl (by kernel_rfl) (by kernel_rfl) (by kernel_rfl) (by kernel_rfl) (fun _ _ _ h => h) (Or.inl ⟨by rfl, ?_⟩) hy6 ?_
                rotate_left
                · (intro wy hSw; obtain ⟨hs1, hs2, hs3, hs4⟩ := hSw; go_simp; try with_reducible rfl)
                try simp only [Act.put]
                simp only [List.getElem_toArray, List.getElem_cons_succ, List.getElem_cons_zero, List.setIfInBounds_toArray, List.set_cons_succ, List.set_cons_zero]
                refine wpAnyE_one (i := 20) (by kernel_rfl) rfl (fun K hK => ?_)
                go_simp
                rw [← hw7]
                refine hK _ _ (HYW.out _ HB7.out) ?_
                clear hK K hw7 hy6
                have hc : w7.cell? ⟨w6.heap.size, 0, none⟩ = some (.slice none 0 0) := box_cell HBX.out
                have hfz : w7.frozen? ⟨w6.heap.size, 0, none⟩ = false := frozen_of_row w7 _ 0 _ _ HBX.out
                refine wpAnyE_one (i := 21) (by kernel_rfl) rfl (fun K hK => ?_)
                go_simp
                refine hK _ _ (HYW.out _ (HB7.out.setCell HBL.out _)) ?_
                clear hK K hc hfz
                refine wpAnyE_last (by kernel_rfl) (by kernel_rfl) rfl (fun K hK => ?_)
                go_simp
                refine hK _ _ ?_
                go_wp2_with fail
                go_meet
                exact ⟨_, rfl, Lib.hid (HB7.out.setCell HBL.out _), .inl ⟨hbg, rfl⟩⟩
              · have HOW : Hid (Own w7 w5.heap.size 5 FA fc (Frm.put 69 (frB ed))) := Lib.hid (own_keepS (ho.mono HVS.out) (fun q e => by rw [hw7]; exact Below.heap_alloc _ _ _ (ho.blk_ge q e).2))
                have HNE : Hid (blk FA ≠ some w6.heap.size) := Lib.hid (fun e => by have := (ho.blk_ge _ e).2; omega)
                clear ho
                refine ⟨_, rfl, ?_⟩
                refine hK _ _ hy6 ?_
                clear hK K
                simp only [Act.put, List.setIfInBounds_toArray, List.set_cons_succ, List.set_cons_zero]
                refine wpAnyE_take (i := 17) (v := ?_) rfl (by kernel_rfl) (by kernel_rfl) (by kernel_rfl) (by kernel_rfl) (fun _ _ _ h => h) (Or.inl ⟨by rfl, ?_⟩) hy6 ?_
                rotate_left
                · (intro wy hSw; obtain ⟨hs1, hs2, hs3, hs4⟩ := hSw; go_simp; try with_reducible rfl)
                try simp only [Act.put]
                refine wpAnyE_take (i := 18) (v := ?_) rfl (by kernel_rfl) (by kernel_rfl) (by kernel_rfl) (by kernel_rfl) (fun _ _ _ h => h) (Or.inl ⟨by rfl, ?_⟩) hy6 ?_
                rotate_left
                · (intro wy hSw; obtain ⟨hs1, hs2, hs3, hs4⟩ := hSw; go_simp; try with_reducible rfl)
                try simp only [Act.put]
                refine wpAnyE_take (i := 19) (v := ?_) rfl (by kernel_rfl) (by kernel_rfl) (by kernel_rfl) (by kernel_rfl) (fun _ _ _ h => h) (Or.inl ⟨by rfl, ?_⟩) hy6 ?_
                rotate_left
                · (intro wy hSw; obtain ⟨hs1, hs2, hs3, hs4⟩ := hSw; go_simp; try with_reducible rfl)
                try simp only [Act.put]
                simp only [List.getElem_toArray, List.getElem_cons_succ, List.getElem_cons_zero, List.setIfInBounds_toArray, List.set_cons_succ, List.set_cons_zero]
                refine wpAnyE_one (i := 20) (by kernel_rfl) rfl (fun K hK => ?_)
                go_simp
                rw [← hw7]
                refine hK _ _ (HYW.out _ HB7.out) ?_
                clear hK K hw7 hy6
                have hc : w7.cell? ⟨w6.heap.size, 0, none⟩ = some (.slice none 0 0) := box_cell HBX.out
                have hfz : w7.frozen? ⟨w6.heap.size, 0, none⟩ = false := frozen_of_row w7 _ 0 _ _ HBX.out
                refine wpAnyE_one (i := 21) (by kernel_rfl) rfl (fun K hK => ?_)
                go_simp
                refine hK _ _ (HYW.out _ (HB7.out.setCell HBL.out _)) ?_
                clear hK K hc hfz
                refine wpAnyE_last (by kernel_rfl) (by kernel_rfl) rfl (fun K hK => ?_)
                go_simp
                refine hK _ _ ?_
                go_wp2_with fail
                go_meet
                exact ⟨_, rfl, Lib.hid (HB7.out.setCell HBL.out _), .inr ⟨hsm, rfl, Lib.hid ⟨FA, fc, box_put HBX.out, own_keepS HOW.out (fun q e => Below.heap_setCell _ _ _ _ (fun e2 => HNE.out (by rw [e, e2]))), HBL.out⟩⟩⟩
            · go_simp
              obtain ⟨V1, hV1⟩ : ∃ V1, V1 = V.alloc (.cells #[.slice none 0 0] 34) := ⟨_, rfl⟩
              rw [← hV1]
              have hb1 : Below w5.heap.size w5 V1 := by rw [hV1]; exact HBV.out.alloc HBV.out.size _
              have hx1 : V1.heap[V.heap.size]? = some (.cells #[.slice none 0 0] 34) := by rw [hV1]; exact heap_alloc_new V _
              have HBL : Hid (w5.heap.size ≤ V.heap.size) := Lib.hid HBV.out.size
              have HLT : Hid (V.heap.size < V1.heap.size) := Lib.hid (Array.getElem?_eq_some_iff.1 hx1).1
              refine hK _ _ (HYW.out _ hb1) ?_
              clear hK K hV1 hy
              refine wpAnyE_one (i := 16) (by kernel_rfl) rfl (fun K hK => ?_)
              refine step_call1_dv (by rfl) (some 61) (by rfl) (.tmp 60) (by rfl) (.agg #[.slice A l.length c, .slice none 0 0, .int .i64 log, .int .i64 next]) rfl (enters_of Tryz.func72 (by kernel_rfl) rfl) _ (KF.out V1 hb1) ?_
              rintro e w7 ⟨hb6, hr⟩
              have HB7 : Hid (Below w5.heap.size w5 w7) := Lib.hid (hb1.trans (hb6.mono hb1.size))
              have HBX : Hid (w7.heap[V.heap.size]? = some (.cells #[.slice none 0 0] 34)) := Lib.hid ((hb6.block _ HLT.out).trans hx1)
              have HVS : Hid (w5.heap.size ≤ V1.heap.size) := Lib.hid hb1.size
              have hy7 := HYW.out _ HB7.out
              clear hb6 hb1 hx1 KF HBV
              rcases hr with ⟨hbg, rfl⟩ | ⟨hsm, FA, fc, rfl, ho⟩
              · refine ⟨_, rfl, ?_⟩
                refine hK _ _ hy7 ?_
                clear hK K
                simp only [Act.put, List.setIfInBounds_toArray, List.set_cons_succ, List.set_cons_zero]
                refine wpAnyE_take (i := 17) (v := ?_) rfl (by kernel_rfl) (by kernel_rfl) (by kernel_rfl) (by kernel_rfl) (fun _ _ _ h => h) (Or.inl ⟨by rfl, ?_⟩) hy7 ?_
                rotate_left
                · (intro wy hSw; obtain ⟨hs1, hs2, hs3, hs4⟩ := hSw; go_simp; try with_reducible rfl)
                try simp only [Act.put]
                refine wpAnyE_take (i := 18) (v := ?_) rfl (by kernel_rfl) (by kernel_rfl) (by kernel_rfl) (by kernel_rfl) (fun _ _ _ h => h) (Or.inl ⟨by rfl, ?_⟩) hy7 ?_
                rotate_left
                · (intro wy hSw; obtain ⟨hs1, hs2, hs3, hs4⟩ := hSw; go_simp; try with_reducible rfl)
                try simp only [Act.put]
                refine wpAnyE_take (i := 19) (v := ?_) rfl (by kernel_rfl) (by kernel_rfl) (by kernel_rfl) (by kernel_rfl) (fun _ _ _ h => h) (Or.inl ⟨by rfl, ?_⟩) hy7 ?_
                rotate_left
                · (intro wy hSw; obtain ⟨hs1, hs2, hs3, hs4⟩ := hSw; go_simp; try with_reducible rfl)
                try simp only [Act.put]
                simp only [List.getElem_toArray, List.getElem_cons_succ, List.getElem_cons_zero, List.setIfInBounds_toArray, List.set_cons_succ, List.set_cons_zero]
                clear hy7
                have hc : w7.cell? ⟨V.heap.size, 0, none⟩ = some (.slice none 0 0) := box_cell HBX.out
                have hfz : w7.frozen? ⟨V.heap.size, 0, none⟩ = false := frozen_of_row w7 _ 0 _ _ HBX.out
                refine wpAnyE_one (i := 21) (by kernel_rfl) rfl (fun K hK => ?_)
                go_simp
                refine hK _ _ (HYW.out _ (HB7.out.setCell HBL.out _)) ?_
                clear hK K hc hfz
                refine wpAnyE_last (by kernel_rfl) (by kernel_rfl) rfl (fun K hK => ?_)
                go_simp
                refine hK _ _ ?_
                go_wp2_with fail
                go_meet
                exact ⟨_, rfl, Lib.hid (HB7.out.setCell HBL.out _), .inl ⟨hbg, rfl⟩⟩
              · have HOW : Hid (Own w7 w5.heap.size 5 FA fc (Frm.put 69 (frB ed))) := Lib.hid (ho.mono HVS.out)
                have HNE : Hid (blk FA ≠ some V.heap.size) := Lib.hid (fun e => by have := (ho.blk_ge _ e).1; have := HLT.out; omega)
                clear ho
                refine ⟨_, rfl, ?_⟩
                refine hK _ _ hy7 ?_
                clear hK K
                simp only [Act.put, List.setIfInBounds_toArray, List.set_cons_succ, List.set_cons_zero]
                refine wpAnyE_take (i := 17) (v := ?_) rfl (by kernel_rfl) (by kernel_rfl) (by kernel_rfl) (by kernel_rfl) (fun _ _ _ h => h) (Or.inl ⟨by rfl, ?_⟩) hy7 ?_
                rotate_left
                · (intro wy hSw; obtain ⟨hs1, hs2, hs3, hs4⟩ := hSw; go_simp; try with_reducible rfl)
                try simp only [Act.put]
                refine wpAnyE_take (i := 18) (v := ?_) rfl (by kernel_rfl) (by kernel_rfl) (by kernel_rfl) (by kernel_rfl) (fun _ _ _ h => h) (Or.inl ⟨by rfl, ?_⟩) hy7 ?_
                rotate_left
                · (intro wy hSw; obtain ⟨hs1, hs2, hs3, hs4⟩ := hSw; go_simp; try with_reducible rfl)
                try simp only [Act.put]
                refine wpAnyE_take (i := 19) (v := ?_) rfl (by kernel_rfl) (by kernel_rfl) (by kernel_rfl) (by kernel_rfl) (fun _ _ _ h => h) (Or.inl ⟨by rfl, ?_⟩) hy7 ?_
                rotate_left
                · (intro wy hSw; obtain ⟨hs1, hs2, hs3, hs4⟩ := hSw; go_simp; try with_reducible rfl)
                try simp only [Act.put]
                simp only [List.getElem_toArray, List.getElem_cons_succ, List.getElem_cons_zero, List.setIfInBounds_toArray, List.set_cons_succ, List.set_cons_zero]
                clear hy7
                have hc : w7.cell? ⟨V.heap.size, 0, none⟩ = some (.slice none 0 0) := box_cell HBX.out
                have hfz : w7.frozen? ⟨V.heap.size, 0, none⟩ = false := frozen_of_row w7 _ 0 _ _ HBX.out
                refine wpAnyE_one (i := 21) (by kernel_rfl) rfl (fun K hK => ?_)
                go_simp
                refine hK _ _ (HYW.out _ (HB7.out.setCell HBL.out _)) ?_
                clear hK K hc hfz
                refine wpAnyE_last (by kernel_rfl) (by kernel_rfl) rfl (fun K hK => ?_)
                go_simp
                refine hK _ _ ?_
                go_wp2_with fail
                go_meet
                exact ⟨_, rfl, Lib.hid (HB7.out.setCell HBL.out _), .inr ⟨hsm, rfl, Lib.hid ⟨FA, fc, box_put HBX.out, own_keepS HOW.out (fun q e => Below.heap_setCell _ _ _ _ (fun e2 => HNE.out (by rw [e, e2]))), HBL.out⟩⟩⟩
          case rest =>
            obtain ⟨bc, rfl, HB6, hcase⟩ := hcut
            have HX6 : Hid (wc.heap[w.heap.size]? = some (.cells #[.pointer (some ⟨gk, 0, none⟩)] 51)) := Lib.hid ((HB6.out.block _ (Array.getElem?_eq_some_iff.1 HX5.out).1).trans HX5.out)
            have HK6 : Hid (wc.heap[gk]? = some (bkObj g n A l c log next br)) := Lib.hid ((HB6.out.block _ (Array.getElem?_eq_some_iff.1 HK5.out).1).trans HK5.out)
            rcases hcase with ⟨hbg, rfl⟩ | ⟨hsm, rfl, HF6⟩
            · have HE : Hid (p = ((2, s1), n)) := Lib.hid (by
                rw [HP.out, HN.out, HZ.out, HL.out]
                unfold beginP
                rw [if_neg (by rw [HC.out]; simp), if_neg (by rw [← HL.out, ← HZ.out]; exact hbig), if_pos hbg, HC.out])
              go_wp2_with fail
              go_ret
              rw [HE.out]
              obtain ⟨m1, h1, h2, _⟩ := HS5.out
              exact ⟨rfl, m1, h1.below HB6.out, h2.trans (AftB.of (Sto.Aft.of_below HB6.out)), HK6.out⟩
            · have HE : Hid (p = (allP (beginSteps n (Frm.put 69 (frB ed))) s1, n)) := Lib.hid (by
                rw [HP.out, HN.out, HZ.out, HL.out]
                unfold beginP
                rw [if_neg (by rw [HC.out]; simp), if_neg (by rw [← HL.out, ← HZ.out]; exact hbig), if_neg (by omega), HC.out])
              obtain ⟨fb, hfb⟩ : ∃ fb, fb = Frm.put 69 (frB ed) := ⟨_, rfl⟩
              rw [← hfb] at HE HF6
              obtain ⟨m1, hs5, ha5, hnb⟩ := HS5.out
              obtain ⟨FA, fc, hbx, hof, hbl⟩ := HF6.out
              have hs6 := hs5.below HB6.out
              have hbx1 := (Array.getElem?_eq_some_iff.1 hbx).1
              obtain ⟨w7, hw7⟩ : ∃ w7, w7 = wc.alloc (.cells #[.func (.func 73) #[] #[.pointer (some ⟨w.heap.size, 0, none⟩), .pointer (some ⟨bc, 0, none⟩)], .func (.func 75) #[] #[.pointer (some ⟨w.heap.size, 0, none⟩)], .func (.func 76) #[] #[.pointer (some ⟨w.heap.size, 0, none⟩)], .func (.func 78) #[.pointer (some ⟨g, 0, none⟩)] #[]] 100) := ⟨_, rfl⟩
              have hb7 : Below wc.heap.size wc w7 := by rw [hw7]; exact (Below.refl _ _).alloc (Nat.le_refl _) _
              have hx7 : w7.heap[wc.heap.size]? = some (.cells #[.func (.func 73) #[] #[.pointer (some ⟨w.heap.size, 0, none⟩), .pointer (some ⟨bc, 0, none⟩)], .func (.func 75) #[] #[.pointer (some ⟨w.heap.size, 0, none⟩)], .func (.func 76) #[] #[.pointer (some ⟨w.heap.size, 0, none⟩)], .func (.func 78) #[.pointer (some ⟨g, 0, none⟩)] #[]] 100) := by rw [hw7]; exact heap_alloc_new wc _
              have hs7 := hs6.below hb7
              have hxb : w7.heap[w.heap.size]? = some (.cells #[.pointer (some ⟨gk, 0, none⟩)] 51) := (hb7.block _ (Array.getElem?_eq_some_iff.1 HX6.out).1).trans HX6.out
              have hxk : w7.heap[gk]? = some (bkObj g n A l c log next br) := (hb7.block _ (Array.getElem?_eq_some_iff.1 HK6.out).1).trans HK6.out
              have hxc : w7.heap[bc]? = some (.cells #[.slice FA fb.length fc] 34) := (hb7.block _ hbx1).trans hbx
              have hnk : ¬ Sto.Mut g m1 gk := fun hm => not_foot_book hs7 ⟨_, _, hxk⟩ (.inl hm)
              have hn5 : ∀ q, w5.heap.size ≤ q → ¬ Sto.Mut g m1 q := fun q hq hm => by have := (hs5.r.mut_ge hm).2; omega
              have hfr : RdB w7 w7.heap.size FA fb := (hof.rd.below hb7 (Nat.le_refl _)).more hb7.size
              have hfn : ∀ q, blk FA = some q → q < w7.heap.size ∧ ¬ Sto.Mut g m1 q := fun q e => ⟨Nat.lt_of_lt_of_le (hof.blk_ge q e).2 hb7.size, hn5 q (hof.blk_ge q e).1⟩
              obtain ⟨fs, hfs⟩ : ∃ fs : List Fc, fs = [⟨73, [], [.pointer (some ⟨w.heap.size, 0, none⟩), .pointer (some ⟨bc, 0, none⟩)]⟩, ⟨75, [], [.pointer (some ⟨w.heap.size, 0, none⟩)]⟩, ⟨76, [], [.pointer (some ⟨w.heap.size, 0, none⟩)]⟩, ⟨78, [.pointer (some ⟨g, 0, none⟩)], []⟩] := ⟨_, rfl⟩
              have KA := Lib.hid (all_any (σ := Sto.St) fs (beginSteps n fb) (by rw [hfs]; rfl) (fun k y X => StK w7 base g m1 y X ∧ (k = 0 → y = s1) ∧ (k = 1 → y = (Ver.wr s1 n fb).2) ∧ (k = 2 → y = (Ver.wr (Ver.wr s1 n fb).2 newB n).2) ∧ (k = 3 → y = (Sto.rename (Ver.wr (Ver.wr s1 n fb).2 newB n).2 newB curB).2)) (some ⟨wc.heap.size, 0, none⟩) 4 s1 w7 ⟨⟨m1, hs7, Sto.Aft.refl _ _ _⟩, fun _ => rfl, by omega, by omega, by omega⟩ (by rw [hfs]; simp)
                (fun k y X hX => by
                  have e := (hX.1.keep (Array.getElem?_eq_some_iff.1 hx7).1 (hn5 _ HB6.out.size)).trans hx7
                  subst hfs
                  refine RdS.of (f := F1) (n := 1) (fun _ => rfl) _ 0 (Array.getElem?_eq_some_iff.1 e).1 (fun k hk j u hj => ?_)
                  have hj0 : j = 0 := by
                    rcases j with _ | j
                    · rfl
                    · simp [F1] at hj
                  subst hj0
                  rw [cell_of_row _ _ _ _ _ (0, 0) e]
                  rcases k with _ | _ | _ | _ | k
                  · simpa [F1, Fc.val] using hj
                  · simpa [F1, Fc.val] using hj
                  · simpa [F1, Fc.val] using hj
                  · simpa [F1, Fc.val] using hj
                  · exfalso; simp only [List.length_cons, List.length_nil] at hk; omega)
                (fun f hf args w => by
                  subst hfs
                  simp only [List.mem_cons, List.not_mem_nil, or_false] at hf
                  rcases hf with rfl | rfl | rfl | rfl <;> rfl)
                (fun k hk y X hX => by
                  obtain ⟨hS1, i0, i1, i2, i3⟩ := hX
                  subst hfs
                  have z1 := HSZ.out
                  have z2 := wr_szv s1 n fb
                  have z3 := wr_szv (Ver.wr s1 n fb).2 newB n
                  rcases k with _ | _ | _ | _ | k
                  · have e := i0 rfl
                    subst e
                    exact (begin1_any w7 X base g _ gk bc m1 y n hnlen hS1 (by omega) (by omega) _ _ _ _ hxb hnb hxk hnk FA fc fb hxc (hn5 _ hbl) hfr hfn).mono fun e W' ⟨h1, h2⟩ => ⟨h1, h2, by omega, fun _ => rfl, by omega, by omega⟩
                  · have e := i1 rfl
                    subst e
                    exact (begin2_any w7 X base g _ gk m1 _ n hS1 (by omega) (by omega) _ _ _ _ hxb hnb hxk hnk).mono fun e W' ⟨h1, h2⟩ => ⟨h1, h2, by omega, by omega, fun _ => rfl, by omega⟩
                  · have e := i2 rfl
                    subst e
                    exact (begin3_any w7 X base g _ gk m1 _ hS1 (by omega) (by omega) _ _ _ _ _ hxb hnb hxk hnk).mono fun e W' ⟨h1, h2⟩ => ⟨h1, h2, by omega, by omega, by omega, fun _ => rfl⟩
                  · have e := i3 rfl
                    subst e
                    exact (hS1.op (fun m hm => Sto.syncDir_any hm)).mono fun e W' ⟨h1, h2⟩ => ⟨h1, h2, by omega, by omega, by omega, by omega⟩
                  · exfalso; simp only [List.length_cons, List.length_nil] at hk; omega))
              have e4 : fs.length = 4 := by rw [hfs]; rfl
              rw [e4] at KA
              have HXK := Lib.hid hxk
              have HNK := Lib.hid hnk
              have HB7 := Lib.hid hb7
              have HA5 := Lib.hid ha5
              obtain ⟨q1, q2⟩ : wc.cell? ⟨w.heap.size, 0, none⟩ = some (.pointer (some ⟨gk, 0, none⟩)) ∧ wc.cell? ⟨gk, 0, none⟩ = some (.pointer (some ⟨g, 0, none⟩)) := ⟨box_cell HX6.out, by rw [cell_of_row wc _ 0 _ _ (0, 0) HK6.out]; rfl⟩
              have HW7 := Lib.hid hw7
              rw [hw7] at KA
              clear hw7 hfs hb7 hxk hnk ha5 hfb hs5 hnb hbx hof hbl hs6 hbx1 hx7 hs7 hxb hxc hn5 hfr hfn
              go_wp2_with fail
              refine KA.out.mono ?_
              rintro e w8 ⟨rfl, j, hst, -⟩
              rw [← HW7.out] at hst
              have H8 := Lib.hid hst
              clear hst KA
              go_wp2_with fail
              go_ret
              rw [HE.out]
              obtain ⟨m9, h1, h2⟩ := H8.out
              exact ⟨rfl, m9, h1, (HA5.out.trans (AftB.of (Sto.Aft.of_below (HB6.out.trans (HB7.out.mono HB6.out.size))))).trans (AftB.of h2), (H8.out.keep (Array.getElem?_eq_some_iff.1 HXK.out).1 HNK.out).trans HXK.out⟩
end Ver
end Go.Proofs.YtekbdedpombgcaaGreatDoor

namespace Go.Proofs.YtekbdedpombgcaaGreatDoor
open Go.RowKit Go.Maps

namespace Ver
/-- Is a file to go? -/
def goneB (l : List Vf) (list n : Sto.Str) : Bool := (decide (0 < nb manB n) && decide (n ≠ list)) || (decide (0 < nb tabB n) && !(l.any (fun v => decide (v.number = (nb tabB n : Int)))))
set_option maxHeartbeats 1000000 in
set_option maxRecDepth 100000 in
theorem clean1_any (v : Vf) (W : World) (b : Nat) (n : Int) (hb : W.heap[b]? = some (.cells #[.int .i64 n] 3)) :
    Calls Tryz.prog 80 #[v.val, .pointer (some ⟨b, 0, none⟩)] W fun e w' => e = .returned (.bool (decide (v.number = n))) ∧ Below W.heap.size W w' := by
  obtain ⟨nu, lv, FA, fc, fi, LA, lc, la, lo, hi⟩ := v
  simp only [Vf.val]
  have hlt := (Array.getElem?_eq_some_iff.1 hb).1
  have hy : ∀ O, (W.alloc O).cell? ⟨b, 0, none⟩ = some (.int .i64 n) := fun O => by
    rw [((Below.refl W.heap.size W).alloc (o := O) (Nat.le_refl _)).cell (p := ⟨b, 0, none⟩) hlt]
    exact box_cell hb
  clear hb
  go_enter Tryz.func80, Tryz.ntmps80
  go_wp2_with fail
  go_ret
  exact ⟨rfl, (Below.refl _ _).alloc (Nat.le_refl _) _⟩
set_option maxHeartbeats 4000000 in
set_option maxRecDepth 100000 in
theorem clean_none (w : World) (base bs g gk : Nat) (m : Sto.Mem) (s : Sto.St) (h : Sto.StAt w base g s m) (hf : s.files.length ≤ 1000000)
    (list : Sto.Str) (A : Option Addr) (c : Nat) (l : List Vf) (log next : Int) (br : Bool) (hk : w.heap[gk]? = some (bkObj g list A l c log next br)) (hov : OwV w bs A c l) (hll : l.length ≤ 1000000)
    (hno : ∀ n ∈ Sto.names s, goneB l list n = false) :
    Calls Tryz.prog 32 #[.pointer (some ⟨gk, 0, none⟩)] w fun e w' => e = .returned (.int .i64 0) ∧ Below w.heap.size w w' := by
  have hnl : (Sto.names s).length ≤ 1000000 := by
    unfold Sto.names
    rw [List.length_map]
    exact Nat.le_trans h.r.ok.gnow.len hf
  obtain ⟨w1, hw1⟩ : ∃ w1, w1 = w.alloc (.cells #[.pointer (some ⟨gk, 0, none⟩)] 51) := ⟨_, rfl⟩
  have hb1 : Below w.heap.size w w1 := by rw [hw1]; exact (Below.refl _ _).alloc (Nat.le_refl _) _
  have hx1 : w1.heap[w.heap.size]? = some (.cells #[.pointer (some ⟨gk, 0, none⟩)] 51) := by rw [hw1]; exact heap_alloc_new w _
  have KN := Lib.hid (Sto.names_any (h.below hb1) (by omega))
  have HK0 := Lib.hid hk
  have HB1 := Lib.hid hb1
  have HX1 := Lib.hid hx1
  have HOV := Lib.hid hov
  have HNO := Lib.hid hno
  have q1 : w1.cell? ⟨w.heap.size, 0, none⟩ = some (.pointer (some ⟨gk, 0, none⟩)) := box_cell hx1
  have q2 : w1.cell? ⟨gk, 0, none⟩ = some (.pointer (some ⟨g, 0, none⟩)) := by
    rw [cell_of_row w1 _ 0 _ _ (0, 0) ((hb1.block gk (Array.getElem?_eq_some_iff.1 hk).1).trans hk)]; rfl
  rw [hw1] at KN q1 q2
  clear h hk hb1 hx1 hov hno
  go_enter Tryz.func32, Tryz.ntmps32
  go_wp2_with fail
  refine KN.out.mono ?_
  rw [← hw1]
  rintro e w2 ⟨NA, nc, rfl, hno, hb2⟩
  have hbb : Below w.heap.size w w2 := HB1.out.trans (hb2.mono HB1.out.size)
  have HNM : Hid (∀ X, Below w2.heap.size w2 X → RdS Sto.S1 1 X X.heap.size NA (Sto.names s) ∧ OwV X bs A c l ∧ X.cell? ⟨w.heap.size, 0, none⟩ = some (.pointer (some ⟨gk, 0, none⟩)) ∧ X.cell? ⟨gk, 0, none⟩ = some (.pointer (some ⟨g, 0, none⟩)) ∧ X.cell? ⟨gk, 1, none⟩ = some (.string ⟨list.toArray⟩) ∧ X.cell? ⟨gk, 2, none⟩ = some (.slice A l.length c)) := Lib.hid (fun X hX => by
    have hbX := hbb.trans (hX.mono hbb.size)
    have hx := (hX.block _ (Array.getElem?_eq_some_iff.1 ((hb2.block _ (Array.getElem?_eq_some_iff.1 HX1.out).1).trans HX1.out)).1).trans ((hb2.block _ (Array.getElem?_eq_some_iff.1 HX1.out).1).trans HX1.out)
    have hk := (hbX.block _ (Array.getElem?_eq_some_iff.1 HK0.out).1).trans HK0.out
    exact ⟨(hno.below hX).rd, HOV.out.below hbX, box_cell hx, by rw [cell_of_row X _ 0 _ _ (0, 0) hk]; rfl, by rw [cell_of_row X _ 1 _ _ (0, 0) hk]; rfl, by rw [cell_of_row X _ 2 _ _ (0, 0) hk]; rfl⟩)
  have HB2 := Lib.hid hbb
  obtain ⟨L, hL⟩ : ∃ L, L = Sto.names s := ⟨_, rfl⟩
  rw [← hL] at HNM HNO hnl ⊢
  clear hbb hno hb2 q1 q2 hw1 KN hL
  go_wp2_with fail
  go_loopw [3, 14] (fun a i wr => a = .slice none 0 0 ∧ ∃ k : Nat, k ≤ L.length ∧ i = .int .i64 (k : Int) ∧ Hid (Below w2.heap.size w2 wr)) (fun _ i _ => L.length - (intOf i).toNat)
  case atStart => exact ⟨rfl, 0, by omega, rfl, Lib.hid (Below.refl _ _)⟩
  case round =>
    obtain ⟨rfl, k, hk, rfl, HBR⟩ := hrel
    by_cases hlt : k < L.length
    · have hlt' : (k : Int) < (L.length : Int) := by omega
      have hk0 : (0 : Int) ≤ (k : Int) := by omega
      obtain ⟨b, off, hA, hb, hc⟩ := RdS.row (f := Sto.S1) (n := 1) (fun _ => rfl) (by omega) (HNM.out wr HBR.out).1 (by omega)
      have c0 := hc k hlt 0 _ rfl
      rw [Nat.add_zero, Nat.mul_one] at c0
      unfold Sto.str at c0
      have HG := Lib.hid (HNO.out L[k] (List.getElem_mem hlt))
      obtain ⟨q, hq⟩ : ∃ q, q = L[k] := ⟨_, rfl⟩
      rw [← hq] at c0 HG
      obtain ⟨Q, hQ⟩ : ∃ Q, (⟨q.toArray⟩ : ByteArray) = Q := ⟨_, rfl⟩
      rw [hQ] at c0
      obtain ⟨y, hy⟩ : ∃ y, y = nb tabB q := ⟨_, rfl⟩
      obtain ⟨x, hx⟩ : ∃ x, x = nb manB q := ⟨_, rfl⟩
      have KB : Hid (∀ X, Calls Tryz.prog 28 #[.string ⟨#[116, 97, 98, 45]⟩, .string Q] X fun e w' => e = .returned (.int .i64 (y : Int)) ∧ Below X.heap.size X w') := Lib.hid (fun X => by
        have h9 := numbered_any tabB rfl q X
        rw [← hy, hQ] at h9
        exact h9)
      have KM : Hid (∀ X, Calls Tryz.prog 28 #[.string ⟨#[109, 97, 110, 45]⟩, .string Q] X fun e w' => e = .returned (.int .i64 (x : Int)) ∧ Below X.heap.size X w') := Lib.hid (fun X => by
        have h9 := numbered_any manB rfl q X
        rw [← hx, hQ] at h9
        exact h9)
      unfold goneB at HG
      rw [← hy, ← hx] at HG
      obtain ⟨lv, hlv⟩ : ∃ lv, lv = l.any (fun v => decide (v.number = (y : Int))) := ⟨_, rfl⟩
      rw [← hlv] at HG
      obtain ⟨gB, hgB⟩ : ∃ gB, gB = ((decide (0 < x) && decide (q ≠ list)) || (decide (0 < y) && !lv)) := ⟨_, rfl⟩
      have KL : Hid (∀ X b, Below w2.heap.size w2 X → X.heap[b]? = some (.cells #[.int .i64 (y : Int)] 3) → Calls Tryz.prog 79 #[.slice A l.length c, .func (.func 80) #[] #[.pointer (some ⟨b, 0, none⟩)]] X fun e w' => e = .returned (.bool lv) ∧ Below X.heap.size X w') := Lib.hid (fun X b hX hb => by
        rw [hlv]
        exact contains_any 80 [.pointer (some ⟨b, 0, none⟩)] (fun v => decide (v.number = (y : Int))) A c l X (HNM.out X hX).2.1.rd hll (fun v _ W hW => clean1_any v W b y ((hW.block b (Array.getElem?_eq_some_iff.1 hb).1).trans hb)) (fun _ _ => rfl))
      have HQ := Lib.hid hQ
      subst hA
      clear hq hc hy hx hQ hlv
      go_wp2_with fail
      refine (KB.out _).mono ?_
      rintro e x2 ⟨rfl, hb2⟩
      have hba : Below wr.heap.size wr (wr.alloc (.cells #[.string Q] 9)) := (Below.refl _ _).alloc (Nat.le_refl _) _
      have hbr2 : Below w2.heap.size w2 x2 := HBR.out.trans ((hba.trans (hb2.mono hba.size)).mono HBR.out.size)
      have hxq : x2.heap[wr.heap.size]? = some (.cells #[.string Q] 9) := (hb2.block _ (by simp)).trans (heap_alloc_new wr _)
      obtain ⟨x3, hx3⟩ : ∃ x3, x3 = x2.alloc (.cells #[.int .i64 (y : Int)] 3) := ⟨_, rfl⟩
      have hb3 : Below x2.heap.size x2 x3 := by rw [hx3]; exact (Below.refl _ _).alloc (Nat.le_refl _) _
      have hxy : x3.heap[x2.heap.size]? = some (.cells #[.int .i64 (y : Int)] 3) := by rw [hx3]; exact heap_alloc_new x2 _
      have hxq3 := (hb3.block _ (Array.getElem?_eq_some_iff.1 hxq).1).trans hxq
      have HB3 := Lib.hid (hbr2.trans (hb3.mono hbr2.size))
      obtain ⟨_, _, d1, d2, d3, d4⟩ := HNM.out x3 HB3.out
      have HXY := Lib.hid hxy
      have HXQ := Lib.hid hxq3
      have KL3 := Lib.hid (KL.out x3 x2.heap.size HB3.out hxy)
      rw [hx3] at d1 d2 d3 d4 KL3
      clear hb2 hba hbr2 hxq hb3 hxy hxq3 KB KL
      go_wp2_with fail
      refine KL3.out.mono ?_
      rw [← hx3]
      rintro e x4 ⟨rfl, hb4⟩
      have hb34 := HB3.out.trans (hb4.mono HB3.out.size)
      have HB4 := Lib.hid hb34
      have HXY4 := Lib.hid ((hb4.block _ (Array.getElem?_eq_some_iff.1 HXY.out).1).trans HXY.out)
      have HXQ4 := Lib.hid ((hb4.block _ (Array.getElem?_eq_some_iff.1 HXQ.out).1).trans HXQ.out)
      clear hb4 hb34 d1 d2 d3 d4 hx3 KL3
      have HGB : Hid (gB = ((decide (0 < x) && decide (q ≠ list)) || (decide (0 < y) && !lv))) := Lib.hid hgB
      rw [← hgB] at HG
      clear hgB
      obtain ⟨R, hR⟩ : ∃ R, (⟨list.toArray⟩ : ByteArray) = R := ⟨_, rfl⟩
      have HYW : Hid (∀ X, Below x4.heap.size x4 X → X.cell? ⟨wr.heap.size, 0, none⟩ = some (.string Q) ∧ X.cell? ⟨x2.heap.size, 0, none⟩ = some (.int .i64 (y : Int)) ∧ X.cell? ⟨w.heap.size, 0, none⟩ = some (.pointer (some ⟨gk, 0, none⟩)) ∧ X.cell? ⟨gk, 1, none⟩ = some (.string R)) := Lib.hid (fun X hX => by
        have h9 := HNM.out X (HB4.out.trans (hX.mono HB4.out.size))
        exact ⟨box_cell ((hX.block _ (Array.getElem?_eq_some_iff.1 HXQ4.out).1).trans HXQ4.out), box_cell ((hX.block _ (Array.getElem?_eq_some_iff.1 HXY4.out).1).trans HXY4.out), h9.2.2.1, hR ▸ h9.2.2.2.2.1⟩)
      go_upto_region 7 with fail
      go_cut [45] from 15 to 50 (fun v wx => v = .bool gB ∧ Hid (Below w2.heap.size w2 wx))
      case first =>
        rcases Nat.eq_zero_or_pos x with hx0 | hx0
        · have a1 : decide (0 < x) = false := decide_eq_false (by omega)
          rcases Nat.eq_zero_or_pos y with hy0 | hy0
          · have t1 : decide (0 < y) = false := decide_eq_false (by omega)
            have HE : Hid (Value.bool false = Value.bool gB) := Lib.hid (by rw [HGB.out]; simp [a1, t1])
            obtain ⟨V, hV⟩ : ∃ V, V = x4.drew := ⟨_, rfl⟩
            have hbV : Below x4.heap.size x4 V := by rw [hV]; exact (Below.refl _ _).drew
            have HBV := Lib.hid hbV
            have hy := HYW.out V hbV
            refine wp_region_E 18 (fun w' => w'.cell? ⟨wr.heap.size, 0, none⟩ = some (.string Q) ∧ w'.cell? ⟨x2.heap.size, 0, none⟩ = some (.int .i64 (y : Int)) ∧ w'.cell? ⟨w.heap.size, 0, none⟩ = some (.pointer (some ⟨gk, 0, none⟩)) ∧ w'.cell? ⟨gk, 1, none⟩ = some (.string R)) (by kernel_rfl) ?_
            rw [← hV]
            clear hV hbV
            refine wpAnyE_takes [11, 10, 3, 2, 1] (i := 0) (v := ?_) rfl (by kernel_rfl) (by kernel_rfl) (by kernel_rfl) (by kernel_rfl) (by kernel_rfl) (fun _ _ _ h => h) (Or.inl ⟨by rfl, ?_⟩) hy ?_
            rotate_left
            · (intro wy hSw; obtain ⟨hs1, hs2, hs3, hs4⟩ := hSw; go_simp; try with_reducible rfl)
            try simp only [Act.put, List.setIfInBounds_toArray]
            simp only [List.getElem_toArray, List.getElem_cons_zero, List.set_cons_succ, List.set_cons_zero]
            refine wpAnyE_one (i := 1) (by kernel_rfl) rfl (fun K hK => ?_)
            refine step_call2_dv (by rfl) (some 28) (by rfl) (.const (.string ⟨#[109, 97, 110, 45]⟩)) (.tmp 27) (by rfl) (.string ⟨#[109, 97, 110, 45]⟩) (.string Q) rfl rfl (enters_of Tryz.func28 (by kernel_rfl) rfl) _ (KM.out V) ?_
            rintro e x5 ⟨rfl, hb5⟩
            have hb45 := HBV.out.trans (hb5.mono HBV.out.size)
            have HB5 := Lib.hid hb45
            have hy5 := HYW.out x5 hb45
            refine ⟨_, rfl, ?_⟩
            refine hK _ _ hy5 ?_
            clear hK K hb5 hb45 hy HBV
            simp only [Act.put, List.setIfInBounds_toArray, List.set_cons_succ, List.set_cons_zero]
            refine wpAnyE_takes [11, 10, 3] (i := 2) (v := ?_) rfl (by kernel_rfl) (by kernel_rfl) (by kernel_rfl) (by kernel_rfl) (by kernel_rfl) (fun _ _ _ h => h) (Or.inl ⟨by rfl, ?_⟩) hy5 ?_
            rotate_left
            · (intro wy hSw; obtain ⟨hs1, hs2, hs3, hs4⟩ := hSw; go_simp; try with_reducible rfl)
            try simp only [Act.put]
            refine wpAnyE_takes [11, 10] (i := 3) (v := ?_) rfl (by kernel_rfl) (by kernel_rfl) (by kernel_rfl) (by kernel_rfl) (by kernel_rfl) (fun _ _ _ h => h) (Or.inl ⟨by rfl, ?_⟩) hy5 ?_
            rotate_left
            · (intro wy hSw; obtain ⟨hs1, hs2, hs3, hs4⟩ := hSw; go_simp; try with_reducible rfl)
            try simp only [Act.put]
            simp only [List.getElem_toArray, List.getElem_cons_succ, List.getElem_cons_zero, List.setIfInBounds_toArray, List.set_cons_succ, List.set_cons_zero]
            refine wpAnyE_takes [11, 10, 9] (i := 4) (v := undef) rfl (by kernel_rfl) (by kernel_rfl) (by kernel_rfl) (by kernel_rfl) (by kernel_rfl) (fun _ _ _ h => h) (Or.inr ⟨by rfl, rfl⟩) hy5 ?_
            try simp only [Act.put]
            refine wpAnyE_takes [11, 10, 9, 8, 7, 6] (i := 5) (v := undef) rfl (by kernel_rfl) (by kernel_rfl) (by kernel_rfl) (by kernel_rfl) (by kernel_rfl) (fun _ _ _ h => h) (Or.inr ⟨by rfl, rfl⟩) hy5 ?_
            try simp only [Act.put]
            refine wpAnyE_takes [11, 10, 9, 8, 7] (i := 6) (v := undef) rfl (by kernel_rfl) (by kernel_rfl) (by kernel_rfl) (by kernel_rfl) (by kernel_rfl) (fun _ _ _ h => h) (Or.inr ⟨by rfl, rfl⟩) hy5 ?_
            try simp only [Act.put]
            refine wpAnyE_takes [11, 10, 9, 8] (i := 7) (v := undef) rfl (by kernel_rfl) (by kernel_rfl) (by kernel_rfl) (by kernel_rfl) (by kernel_rfl) (fun _ _ _ h => h) (Or.inr ⟨by rfl, rfl⟩) hy5 ?_
            try simp only [Act.put]
            refine wpAnyE_takes [11, 10, 9] (i := 8) (v := undef) rfl (by kernel_rfl) (by kernel_rfl) (by kernel_rfl) (by kernel_rfl) (by kernel_rfl) (fun _ _ _ h => h) (Or.inr ⟨by rfl, rfl⟩) hy5 ?_
            try simp only [Act.put]
            refine wpAnyE_takes [11, 10] (i := 9) (v := undef) rfl (by kernel_rfl) (by kernel_rfl) (by kernel_rfl) (by kernel_rfl) (by kernel_rfl) (fun _ _ _ h => h) (Or.inr ⟨by rfl, rfl⟩) hy5 ?_
            try simp only [Act.put]
            refine wpAnyE_takes [11] (i := 10) (v := ?_) rfl (by kernel_rfl) (by kernel_rfl) (by kernel_rfl) (by kernel_rfl) (by kernel_rfl) (fun _ _ _ h => h) (Or.inl ⟨by rfl, ?_⟩) hy5 ?_
            rotate_left
            · (intro wy hSw; obtain ⟨hs1, hs2, hs3, hs4⟩ := hSw; go_simp; try with_reducible rfl)
            try simp only [Act.put]
            refine wpAnyE_takes [] (i := 11) (v := ?_) rfl (by kernel_rfl) (by kernel_rfl) (by kernel_rfl) (by kernel_rfl) (by kernel_rfl) (fun _ _ _ h => h) (Or.inl ⟨by rfl, ?_⟩) hy5 ?_
            rotate_left
            · (intro wy hSw; obtain ⟨hs1, hs2, hs3, hs4⟩ := hSw; go_simp; try with_reducible rfl)
            try simp only [Act.put]
            simp only [List.getElem_toArray, List.getElem_cons_succ, List.getElem_cons_zero, List.setIfInBounds_toArray, List.set_cons_succ, List.set_cons_zero]
            refine wpAnyE_takes [17, 14, 13] (i := 12) (v := ?_) rfl (by kernel_rfl) (by kernel_rfl) (by kernel_rfl) (by kernel_rfl) (by kernel_rfl) (fun _ _ _ h => h) (Or.inl ⟨by rfl, ?_⟩) hy5 ?_
            rotate_left
            · (intro wy hSw; obtain ⟨hs1, hs2, hs3, hs4⟩ := hSw; go_simp; try with_reducible rfl)
            try simp only [Act.put]
            refine wpAnyE_takes [17, 14] (i := 13) (v := ?_) rfl (by kernel_rfl) (by kernel_rfl) (by kernel_rfl) (by kernel_rfl) (by kernel_rfl) (fun _ _ _ h => h) (Or.inl ⟨by rfl, ?_⟩) hy5 ?_
            rotate_left
            · (intro wy hSw; obtain ⟨hs1, hs2, hs3, hs4⟩ := hSw; go_simp; try with_reducible rfl)
            try simp only [Act.put]
            refine wpAnyE_takes [17] (i := 14) (v := ?_) rfl (by kernel_rfl) (by kernel_rfl) (by kernel_rfl) (by kernel_rfl) (by kernel_rfl) (fun _ _ _ h => h) (Or.inl ⟨by rfl, ?_⟩) hy5 ?_
            rotate_left
            · (intro wy hSw; obtain ⟨hs1, hs2, hs3, hs4⟩ := hSw; go_simp; try with_reducible rfl)
            try simp only [Act.put]
            simp only [List.getElem_toArray, List.getElem_cons_succ, List.getElem_cons_zero, List.setIfInBounds_toArray, List.set_cons_succ, List.set_cons_zero]
            refine wpAnyE_takes [17, 16] (i := 15) (v := undef) rfl (by kernel_rfl) (by kernel_rfl) (by kernel_rfl) (by kernel_rfl) (by kernel_rfl) (fun _ _ _ h => h) (Or.inr ⟨by rfl, rfl⟩) hy5 ?_
            try simp only [Act.put]
            refine wpAnyE_takes [17] (i := 16) (v := undef) rfl (by kernel_rfl) (by kernel_rfl) (by kernel_rfl) (by kernel_rfl) (by kernel_rfl) (fun _ _ _ h => h) (Or.inr ⟨by rfl, rfl⟩) hy5 ?_
            try simp only [Act.put]
            refine wpAnyE_takes [] (i := 17) (v := ?_) rfl (by kernel_rfl) (by kernel_rfl) (by kernel_rfl) (by kernel_rfl) (by kernel_rfl) (fun _ _ _ h => h) (Or.inl ⟨by rfl, ?_⟩) hy5 ?_
            rotate_left
            · (intro wy hSw; obtain ⟨hs1, hs2, hs3, hs4⟩ := hSw; go_simp; try with_reducible rfl)
            try simp only [Act.put]
            simp only [List.getElem_toArray, List.getElem_cons_succ, List.getElem_cons_zero, List.setIfInBounds_toArray, List.set_cons_succ, List.set_cons_zero]
            refine wpAnyE_last (by kernel_rfl) (by kernel_rfl) rfl (fun K hK => ?_)
            go_simp
            refine hK _ _ ?_
            go_wp2_with fail
            go_meet
            exact ⟨HE.out, Lib.hid (HB4.out.trans (HB5.out.mono HB4.out.size))⟩
          · have t1 : decide (0 < y) = true := decide_eq_true hy0
            rcases lv with _ | _
            · have HE : Hid (Value.bool true = Value.bool gB) := Lib.hid (by rw [HGB.out]; simp [a1, t1])
              obtain ⟨V, hV⟩ : ∃ V, V = x4.drew := ⟨_, rfl⟩
              have hbV : Below x4.heap.size x4 V := by rw [hV]; exact (Below.refl _ _).drew
              have HBV := Lib.hid hbV
              have hy := HYW.out V hbV
              refine wp_region_E 18 (fun w' => w'.cell? ⟨wr.heap.size, 0, none⟩ = some (.string Q) ∧ w'.cell? ⟨x2.heap.size, 0, none⟩ = some (.int .i64 (y : Int)) ∧ w'.cell? ⟨w.heap.size, 0, none⟩ = some (.pointer (some ⟨gk, 0, none⟩)) ∧ w'.cell? ⟨gk, 1, none⟩ = some (.string R)) (by kernel_rfl) ?_
              rw [← hV]
              clear hV hbV
              refine wpAnyE_takes [11, 10, 3, 2, 1] (i := 0) (v := ?_) rfl (by kernel_rfl) (by kernel_rfl) (by kernel_rfl) (by kernel_rfl) (by kernel_rfl) (fun _ _ _ h => h) (Or.inl ⟨by rfl, ?_⟩) hy ?_
              rotate_left
              · (intro wy hSw; obtain ⟨hs1, hs2, hs3, hs4⟩ := hSw; go_simp; try with_reducible rfl)
              try simp only [Act.put, List.setIfInBounds_toArray]
              simp only [List.getElem_toArray, List.getElem_cons_zero, List.set_cons_succ, List.set_cons_zero]
              refine wpAnyE_one (i := 1) (by kernel_rfl) rfl (fun K hK => ?_)
              refine step_call2_dv (by rfl) (some 28) (by rfl) (.const (.string ⟨#[109, 97, 110, 45]⟩)) (.tmp 27) (by rfl) (.string ⟨#[109, 97, 110, 45]⟩) (.string Q) rfl rfl (enters_of Tryz.func28 (by kernel_rfl) rfl) _ (KM.out V) ?_
              rintro e x5 ⟨rfl, hb5⟩
              have hb45 := HBV.out.trans (hb5.mono HBV.out.size)
              have HB5 := Lib.hid hb45
              have hy5 := HYW.out x5 hb45
              refine ⟨_, rfl, ?_⟩
              refine hK _ _ hy5 ?_
              clear hK K hb5 hb45 hy HBV
              simp only [Act.put, List.setIfInBounds_toArray, List.set_cons_succ, List.set_cons_zero]
              refine wpAnyE_takes [11, 10, 3] (i := 2) (v := ?_) rfl (by kernel_rfl) (by kernel_rfl) (by kernel_rfl) (by kernel_rfl) (by kernel_rfl) (fun _ _ _ h => h) (Or.inl ⟨by rfl, ?_⟩) hy5 ?_
              rotate_left
              · (intro wy hSw; obtain ⟨hs1, hs2, hs3, hs4⟩ := hSw; go_simp; try with_reducible rfl)
              try simp only [Act.put]
              refine wpAnyE_takes [11, 10] (i := 3) (v := ?_) rfl (by kernel_rfl) (by kernel_rfl) (by kernel_rfl) (by kernel_rfl) (by kernel_rfl) (fun _ _ _ h => h) (Or.inl ⟨by rfl, ?_⟩) hy5 ?_
              rotate_left
              · (intro wy hSw; obtain ⟨hs1, hs2, hs3, hs4⟩ := hSw; go_simp; try with_reducible rfl)
              try simp only [Act.put]
              simp only [List.getElem_toArray, List.getElem_cons_succ, List.getElem_cons_zero, List.setIfInBounds_toArray, List.set_cons_succ, List.set_cons_zero]
              refine wpAnyE_takes [11, 10, 9] (i := 4) (v := undef) rfl (by kernel_rfl) (by kernel_rfl) (by kernel_rfl) (by kernel_rfl) (by kernel_rfl) (fun _ _ _ h => h) (Or.inr ⟨by rfl, rfl⟩) hy5 ?_
              try simp only [Act.put]
              refine wpAnyE_takes [11, 10, 9, 8, 7, 6] (i := 5) (v := undef) rfl (by kernel_rfl) (by kernel_rfl) (by kernel_rfl) (by kernel_rfl) (by kernel_rfl) (fun _ _ _ h => h) (Or.inr ⟨by rfl, rfl⟩) hy5 ?_
              try simp only [Act.put]
              refine wpAnyE_takes [11, 10, 9, 8, 7] (i := 6) (v := undef) rfl (by kernel_rfl) (by kernel_rfl) (by kernel_rfl) (by kernel_rfl) (by kernel_rfl) (fun _ _ _ h => h) (Or.inr ⟨by rfl, rfl⟩) hy5 ?_
              try simp only [Act.put]
              refine wpAnyE_takes [11, 10, 9, 8] (i := 7) (v := undef) rfl (by kernel_rfl) (by kernel_rfl) (by kernel_rfl) (by kernel_rfl) (by kernel_rfl) (fun _ _ _ h => h) (Or.inr ⟨by rfl, rfl⟩) hy5 ?_
              try simp only [Act.put]
              refine wpAnyE_takes [11, 10, 9] (i := 8) (v := undef) rfl (by kernel_rfl) (by kernel_rfl) (by kernel_rfl) (by kernel_rfl) (by kernel_rfl) (fun _ _ _ h => h) (Or.inr ⟨by rfl, rfl⟩) hy5 ?_
              try simp only [Act.put]
              refine wpAnyE_takes [11, 10] (i := 9) (v := undef) rfl (by kernel_rfl) (by kernel_rfl) (by kernel_rfl) (by kernel_rfl) (by kernel_rfl) (fun _ _ _ h => h) (Or.inr ⟨by rfl, rfl⟩) hy5 ?_
              try simp only [Act.put]
              refine wpAnyE_takes [11] (i := 10) (v := ?_) rfl (by kernel_rfl) (by kernel_rfl) (by kernel_rfl) (by kernel_rfl) (by kernel_rfl) (fun _ _ _ h => h) (Or.inl ⟨by rfl, ?_⟩) hy5 ?_
              rotate_left
              · (intro wy hSw; obtain ⟨hs1, hs2, hs3, hs4⟩ := hSw; go_simp; try with_reducible rfl)
              try simp only [Act.put]
              refine wpAnyE_takes [] (i := 11) (v := ?_) rfl (by kernel_rfl) (by kernel_rfl) (by kernel_rfl) (by kernel_rfl) (by kernel_rfl) (fun _ _ _ h => h) (Or.inl ⟨by rfl, ?_⟩) hy5 ?_
              rotate_left
              · (intro wy hSw; obtain ⟨hs1, hs2, hs3, hs4⟩ := hSw; go_simp; try with_reducible rfl)
              try simp only [Act.put]
              simp only [List.getElem_toArray, List.getElem_cons_succ, List.getElem_cons_zero, List.setIfInBounds_toArray, List.set_cons_succ, List.set_cons_zero]
              refine wpAnyE_takes [17, 14, 13] (i := 12) (v := ?_) rfl (by kernel_rfl) (by kernel_rfl) (by kernel_rfl) (by kernel_rfl) (by kernel_rfl) (fun _ _ _ h => h) (Or.inl ⟨by rfl, ?_⟩) hy5 ?_
              rotate_left
              · (intro wy hSw; obtain ⟨hs1, hs2, hs3, hs4⟩ := hSw; go_simp; try with_reducible rfl)
              try simp only [Act.put]
              refine wpAnyE_takes [17, 14] (i := 13) (v := ?_) rfl (by kernel_rfl) (by kernel_rfl) (by kernel_rfl) (by kernel_rfl) (by kernel_rfl) (fun _ _ _ h => h) (Or.inl ⟨by rfl, ?_⟩) hy5 ?_
              rotate_left
              · (intro wy hSw; obtain ⟨hs1, hs2, hs3, hs4⟩ := hSw; go_simp; try with_reducible rfl)
              try simp only [Act.put]
              refine wpAnyE_takes [17] (i := 14) (v := ?_) rfl (by kernel_rfl) (by kernel_rfl) (by kernel_rfl) (by kernel_rfl) (by kernel_rfl) (fun _ _ _ h => h) (Or.inl ⟨by rfl, ?_⟩) hy5 ?_
              rotate_left
              · (intro wy hSw; obtain ⟨hs1, hs2, hs3, hs4⟩ := hSw; go_simp; try with_reducible rfl)
              try simp only [Act.put]
              simp only [List.getElem_toArray, List.getElem_cons_succ, List.getElem_cons_zero, List.setIfInBounds_toArray, List.set_cons_succ, List.set_cons_zero]
              refine wpAnyE_takes [17, 16] (i := 15) (v := ?_) rfl (by kernel_rfl) (by kernel_rfl) (by kernel_rfl) (by kernel_rfl) (by kernel_rfl) (fun _ _ _ h => h) (Or.inl ⟨by rfl, ?_⟩) hy5 ?_
              rotate_left
              · (intro wy hSw; obtain ⟨hs1, hs2, hs3, hs4⟩ := hSw; go_simp; try with_reducible rfl)
              try simp only [Act.put]
              refine wpAnyE_takes [17] (i := 16) (v := ?_) rfl (by kernel_rfl) (by kernel_rfl) (by kernel_rfl) (by kernel_rfl) (by kernel_rfl) (fun _ _ _ h => h) (Or.inl ⟨by rfl, ?_⟩) hy5 ?_
              rotate_left
              · (intro wy hSw; obtain ⟨hs1, hs2, hs3, hs4⟩ := hSw; go_simp; try with_reducible rfl)
              try simp only [Act.put]
              refine wpAnyE_takes [] (i := 17) (v := ?_) rfl (by kernel_rfl) (by kernel_rfl) (by kernel_rfl) (by kernel_rfl) (by kernel_rfl) (fun _ _ _ h => h) (Or.inl ⟨by rfl, ?_⟩) hy5 ?_
              rotate_left
              · (intro wy hSw; obtain ⟨hs1, hs2, hs3, hs4⟩ := hSw; go_simp; try with_reducible rfl)
              try simp only [Act.put]
              simp only [List.getElem_toArray, List.getElem_cons_succ, List.getElem_cons_zero, List.setIfInBounds_toArray, List.set_cons_succ, List.set_cons_zero]
              refine wpAnyE_last (by kernel_rfl) (by kernel_rfl) rfl (fun K hK => ?_)
              go_simp
              refine hK _ _ ?_
              go_wp2_with fail
              go_meet
              exact ⟨HE.out, Lib.hid (HB4.out.trans (HB5.out.mono HB4.out.size))⟩
            · have HE : Hid (Value.bool false = Value.bool gB) := Lib.hid (by rw [HGB.out]; simp [a1, t1])
              obtain ⟨V, hV⟩ : ∃ V, V = x4.drew := ⟨_, rfl⟩
              have hbV : Below x4.heap.size x4 V := by rw [hV]; exact (Below.refl _ _).drew
              have HBV := Lib.hid hbV
              have hy := HYW.out V hbV
              refine wp_region_E 18 (fun w' => w'.cell? ⟨wr.heap.size, 0, none⟩ = some (.string Q) ∧ w'.cell? ⟨x2.heap.size, 0, none⟩ = some (.int .i64 (y : Int)) ∧ w'.cell? ⟨w.heap.size, 0, none⟩ = some (.pointer (some ⟨gk, 0, none⟩)) ∧ w'.cell? ⟨gk, 1, none⟩ = some (.string R)) (by kernel_rfl) ?_
              rw [← hV]
              clear hV hbV
              refine wpAnyE_takes [11, 10, 3, 2, 1] (i := 0) (v := ?_) rfl (by kernel_rfl) (by kernel_rfl) (by kernel_rfl) (by kernel_rfl) (by kernel_rfl) (fun _ _ _ h => h) (Or.inl ⟨by rfl, ?_⟩) hy ?_
              rotate_left
              · (intro wy hSw; obtain ⟨hs1, hs2, hs3, hs4⟩ := hSw; go_simp; try with_reducible rfl)
              try simp only [Act.put, List.setIfInBounds_toArray]
              simp only [List.getElem_toArray, List.getElem_cons_zero, List.set_cons_succ, List.set_cons_zero]
              refine wpAnyE_one (i := 1) (by kernel_rfl) rfl (fun K hK => ?_)
              refine step_call2_dv (by rfl) (some 28) (by rfl) (.const (.string ⟨#[109, 97, 110, 45]⟩)) (.tmp 27) (by rfl) (.string ⟨#[109, 97, 110, 45]⟩) (.string Q) rfl rfl (enters_of Tryz.func28 (by kernel_rfl) rfl) _ (KM.out V) ?_
              rintro e x5 ⟨rfl, hb5⟩
              have hb45 := HBV.out.trans (hb5.mono HBV.out.size)
              have HB5 := Lib.hid hb45
              have hy5 := HYW.out x5 hb45
              refine ⟨_, rfl, ?_⟩
              refine hK _ _ hy5 ?_
              clear hK K hb5 hb45 hy HBV
              simp only [Act.put, List.setIfInBounds_toArray, List.set_cons_succ, List.set_cons_zero]
              refine wpAnyE_takes [11, 10, 3] (i := 2) (v := ?_) rfl (by kernel_rfl) (by kernel_rfl) (by kernel_rfl) (by kernel_rfl) (by kernel_rfl) (fun _ _ _ h => h) (Or.inl ⟨by rfl, ?_⟩) hy5 ?_
              rotate_left
              · (intro wy hSw; obtain ⟨hs1, hs2, hs3, hs4⟩ := hSw; go_simp; try with_reducible rfl)
              try simp only [Act.put]
              refine wpAnyE_takes [11, 10] (i := 3) (v := ?_) rfl (by kernel_rfl) (by kernel_rfl) (by kernel_rfl) (by kernel_rfl) (by kernel_rfl) (fun _ _ _ h => h) (Or.inl ⟨by rfl, ?_⟩) hy5 ?_
              rotate_left
              · (intro wy hSw; obtain ⟨hs1, hs2, hs3, hs4⟩ := hSw; go_simp; try with_reducible rfl)
              try simp only [Act.put]
              simp only [List.getElem_toArray, List.getElem_cons_succ, List.getElem_cons_zero, List.setIfInBounds_toArray, List.set_cons_succ, List.set_cons_zero]
              refine wpAnyE_takes [11, 10, 9] (i := 4) (v := undef) rfl (by kernel_rfl) (by kernel_rfl) (by kernel_rfl) (by kernel_rfl) (by kernel_rfl) (fun _ _ _ h => h) (Or.inr ⟨by rfl, rfl⟩) hy5 ?_
              try simp only [Act.put]
              refine wpAnyE_takes [11, 10, 9, 8, 7, 6] (i := 5) (v := undef) rfl (by kernel_rfl) (by kernel_rfl) (by kernel_rfl) (by kernel_rfl) (by kernel_rfl) (fun _ _ _ h => h) (Or.inr ⟨by rfl, rfl⟩) hy5 ?_
              try simp only [Act.put]
              refine wpAnyE_takes [11, 10, 9, 8, 7] (i := 6) (v := undef) rfl (by kernel_rfl) (by kernel_rfl) (by kernel_rfl) (by kernel_rfl) (by kernel_rfl) (fun _ _ _ h => h) (Or.inr ⟨by rfl, rfl⟩) hy5 ?_
              try simp only [Act.put]
              refine wpAnyE_takes [11, 10, 9, 8] (i := 7) (v := undef) rfl (by kernel_rfl) (by kernel_rfl) (by kernel_rfl) (by kernel_rfl) (by kernel_rfl) (fun _ _ _ h => h) (Or.inr ⟨by rfl, rfl⟩) hy5 ?_
              try simp only [Act.put]
              refine wpAnyE_takes [11, 10, 9] (i := 8) (v := undef) rfl (by kernel_rfl) (by kernel_rfl) (by kernel_rfl) (by kernel_rfl) (by kernel_rfl) (fun _ _ _ h => h) (Or.inr ⟨by rfl, rfl⟩) hy5 ?_
              try simp only [Act.put]
              refine wpAnyE_takes [11, 10] (i := 9) (v := undef) rfl (by kernel_rfl) (by kernel_rfl) (by kernel_rfl) (by kernel_rfl) (by kernel_rfl) (fun _ _ _ h => h) (Or.inr ⟨by rfl, rfl⟩) hy5 ?_
              try simp only [Act.put]
              refine wpAnyE_takes [11] (i := 10) (v := ?_) rfl (by kernel_rfl) (by kernel_rfl) (by kernel_rfl) (by kernel_rfl) (by kernel_rfl) (fun _ _ _ h => h) (Or.inl ⟨by rfl, ?_⟩) hy5 ?_
              rotate_left
              · (intro wy hSw; obtain ⟨hs1, hs2, hs3, hs4⟩ := hSw; go_simp; try with_reducible rfl)
              try simp only [Act.put]
              refine wpAnyE_takes [] (i := 11) (v := ?_) rfl (by kernel_rfl) (by kernel_rfl) (by kernel_rfl) (by kernel_rfl) (by kernel_rfl) (fun _ _ _ h => h) (Or.inl ⟨by rfl, ?_⟩) hy5 ?_
              rotate_left
              · (intro wy hSw; obtain ⟨hs1, hs2, hs3, hs4⟩ := hSw; go_simp; try with_reducible rfl)
              try simp only [Act.put]
              simp only [List.getElem_toArray, List.getElem_cons_succ, List.getElem_cons_zero, List.setIfInBounds_toArray, List.set_cons_succ, List.set_cons_zero]
              refine wpAnyE_takes [17, 14, 13] (i := 12) (v := ?_) rfl (by kernel_rfl) (by kernel_rfl) (by kernel_rfl) (by kernel_rfl) (by kernel_rfl) (fun _ _ _ h => h) (Or.inl ⟨by rfl, ?_⟩) hy5 ?_
              rotate_left
              · (intro wy hSw; obtain ⟨hs1, hs2, hs3, hs4⟩ := hSw; go_simp; try with_reducible rfl)
              try simp only [Act.put]
              refine wpAnyE_takes [17, 14] (i := 13) (v := ?_) rfl (by kernel_rfl) (by kernel_rfl) (by kernel_rfl) (by kernel_rfl) (by kernel_rfl) (fun _ _ _ h => h) (Or.inl ⟨by rfl, ?_⟩) hy5 ?_
              rotate_left
              · (intro wy hSw; obtain ⟨hs1, hs2, hs3, hs4⟩ := hSw; go_simp; try with_reducible rfl)
              try simp only [Act.put]
              refine wpAnyE_takes [17] (i := 14) (v := ?_) rfl (by kernel_rfl) (by kernel_rfl) (by kernel_rfl) (by kernel_rfl) (by kernel_rfl) (fun _ _ _ h => h) (Or.inl ⟨by rfl, ?_⟩) hy5 ?_
              rotate_left
              · (intro wy hSw; obtain ⟨hs1, hs2, hs3, hs4⟩ := hSw; go_simp; try with_reducible rfl)
              try simp only [Act.put]
              simp only [List.getElem_toArray, List.getElem_cons_succ, List.getElem_cons_zero, List.setIfInBounds_toArray, List.set_cons_succ, List.set_cons_zero]
              refine wpAnyE_takes [17, 16] (i := 15) (v := ?_) rfl (by kernel_rfl) (by kernel_rfl) (by kernel_rfl) (by kernel_rfl) (by kernel_rfl) (fun _ _ _ h => h) (Or.inl ⟨by rfl, ?_⟩) hy5 ?_
              rotate_left
              · (intro wy hSw; obtain ⟨hs1, hs2, hs3, hs4⟩ := hSw; go_simp; try with_reducible rfl)
              try simp only [Act.put]
              refine wpAnyE_takes [17] (i := 16) (v := ?_) rfl (by kernel_rfl) (by kernel_rfl) (by kernel_rfl) (by kernel_rfl) (by kernel_rfl) (fun _ _ _ h => h) (Or.inl ⟨by rfl, ?_⟩) hy5 ?_
              rotate_left
              · (intro wy hSw; obtain ⟨hs1, hs2, hs3, hs4⟩ := hSw; go_simp; try with_reducible rfl)
              try simp only [Act.put]
              refine wpAnyE_takes [] (i := 17) (v := ?_) rfl (by kernel_rfl) (by kernel_rfl) (by kernel_rfl) (by kernel_rfl) (by kernel_rfl) (fun _ _ _ h => h) (Or.inl ⟨by rfl, ?_⟩) hy5 ?_
              rotate_left
              · (intro wy hSw; obtain ⟨hs1, hs2, hs3, hs4⟩ := hSw; go_simp; try with_reducible rfl)
              try simp only [Act.put]
              simp only [List.getElem_toArray, List.getElem_cons_succ, List.getElem_cons_zero, List.setIfInBounds_toArray, List.set_cons_succ, List.set_cons_zero]
              refine wpAnyE_last (by kernel_rfl) (by kernel_rfl) rfl (fun K hK => ?_)
              go_simp
              refine hK _ _ ?_
              go_wp2_with fail
              go_meet
              exact ⟨HE.out, Lib.hid (HB4.out.trans (HB5.out.mono HB4.out.size))⟩
        · have a1 : decide (0 < x) = true := decide_eq_true hx0
          rcases str2 HQ.out hR with ⟨h1, -, h3, h4⟩ | ⟨h1, h3, h4⟩
          · have d1 : decide (q ≠ list) = false := decide_eq_false (by simpa using h1)
            rcases Nat.eq_zero_or_pos y with hy0 | hy0
            · have t1 : decide (0 < y) = false := decide_eq_false (by omega)
              have HE : Hid (Value.bool false = Value.bool gB) := Lib.hid (by rw [HGB.out]; simp [a1, d1, t1])
              obtain ⟨V, hV⟩ : ∃ V, V = x4.drew := ⟨_, rfl⟩
              have hbV : Below x4.heap.size x4 V := by rw [hV]; exact (Below.refl _ _).drew
              have HBV := Lib.hid hbV
              have hy := HYW.out V hbV
              refine wp_region_E 18 (fun w' => w'.cell? ⟨wr.heap.size, 0, none⟩ = some (.string Q) ∧ w'.cell? ⟨x2.heap.size, 0, none⟩ = some (.int .i64 (y : Int)) ∧ w'.cell? ⟨w.heap.size, 0, none⟩ = some (.pointer (some ⟨gk, 0, none⟩)) ∧ w'.cell? ⟨gk, 1, none⟩ = some (.string R)) (by kernel_rfl) ?_
              rw [← hV]
              clear hV hbV
              refine wpAnyE_takes [11, 10, 3, 2, 1] (i := 0) (v := ?_) rfl (by kernel_rfl) (by kernel_rfl) (by kernel_rfl) (by kernel_rfl) (by kernel_rfl) (fun _ _ _ h => h) (Or.inl ⟨by rfl, ?_⟩) hy ?_
              rotate_left
              · (intro wy hSw; obtain ⟨hs1, hs2, hs3, hs4⟩ := hSw; go_simp; try with_reducible rfl)
              try simp only [Act.put, List.setIfInBounds_toArray]
              simp only [List.getElem_toArray, List.getElem_cons_zero, List.set_cons_succ, List.set_cons_zero]
              refine wpAnyE_one (i := 1) (by kernel_rfl) rfl (fun K hK => ?_)
              refine step_call2_dv (by rfl) (some 28) (by rfl) (.const (.string ⟨#[109, 97, 110, 45]⟩)) (.tmp 27) (by rfl) (.string ⟨#[109, 97, 110, 45]⟩) (.string Q) rfl rfl (enters_of Tryz.func28 (by kernel_rfl) rfl) _ (KM.out V) ?_
              rintro e x5 ⟨rfl, hb5⟩
              have hb45 := HBV.out.trans (hb5.mono HBV.out.size)
              have HB5 := Lib.hid hb45
              have hy5 := HYW.out x5 hb45
              refine ⟨_, rfl, ?_⟩
              refine hK _ _ hy5 ?_
              clear hK K hb5 hb45 hy HBV
              simp only [Act.put, List.setIfInBounds_toArray, List.set_cons_succ, List.set_cons_zero]
              refine wpAnyE_takes [11, 10, 3] (i := 2) (v := ?_) rfl (by kernel_rfl) (by kernel_rfl) (by kernel_rfl) (by kernel_rfl) (by kernel_rfl) (fun _ _ _ h => h) (Or.inl ⟨by rfl, ?_⟩) hy5 ?_
              rotate_left
              · (intro wy hSw; obtain ⟨hs1, hs2, hs3, hs4⟩ := hSw; go_simp; try with_reducible rfl)
              try simp only [Act.put]
              refine wpAnyE_takes [11, 10] (i := 3) (v := ?_) rfl (by kernel_rfl) (by kernel_rfl) (by kernel_rfl) (by kernel_rfl) (by kernel_rfl) (fun _ _ _ h => h) (Or.inl ⟨by rfl, ?_⟩) hy5 ?_
              rotate_left
              · (intro wy hSw; obtain ⟨hs1, hs2, hs3, hs4⟩ := hSw; go_simp; try with_reducible rfl)
              try simp only [Act.put]
              simp only [List.getElem_toArray, List.getElem_cons_succ, List.getElem_cons_zero, List.setIfInBounds_toArray, List.set_cons_succ, List.set_cons_zero]
              refine wpAnyE_takes [11, 10, 9] (i := 4) (v := ?_) rfl (by kernel_rfl) (by kernel_rfl) (by kernel_rfl) (by kernel_rfl) (by kernel_rfl) (fun _ _ _ h => h) (Or.inl ⟨by rfl, ?_⟩) hy5 ?_
              rotate_left
              · (intro wy hSw; obtain ⟨hs1, hs2, hs3, hs4⟩ := hSw; go_simp; try with_reducible rfl)
              try simp only [Act.put]
              refine wpAnyE_takes [11, 10, 9, 8, 7, 6] (i := 5) (v := ?_) rfl (by kernel_rfl) (by kernel_rfl) (by kernel_rfl) (by kernel_rfl) (by kernel_rfl) (fun _ _ _ h => h) (Or.inl ⟨by rfl, ?_⟩) hy5 ?_
              rotate_left
              · (intro wy hSw; obtain ⟨hs1, hs2, hs3, hs4⟩ := hSw; go_simp; try with_reducible rfl)
              try simp only [Act.put]
              refine wpAnyE_takes [11, 10, 9, 8, 7] (i := 6) (v := ?_) rfl (by kernel_rfl) (by kernel_rfl) (by kernel_rfl) (by kernel_rfl) (by kernel_rfl) (fun _ _ _ h => h) (Or.inl ⟨by rfl, ?_⟩) hy5 ?_
              rotate_left
              · (intro wy hSw; obtain ⟨hs1, hs2, hs3, hs4⟩ := hSw; go_simp; try with_reducible rfl)
              try simp only [Act.put]
              refine wpAnyE_takes [11, 10, 9, 8] (i := 7) (v := ?_) rfl (by kernel_rfl) (by kernel_rfl) (by kernel_rfl) (by kernel_rfl) (by kernel_rfl) (fun _ _ _ h => h) (Or.inl ⟨by rfl, ?_⟩) hy5 ?_
              rotate_left
              · (intro wy hSw; obtain ⟨hs1, hs2, hs3, hs4⟩ := hSw; go_simp; try with_reducible rfl)
              try simp only [Act.put]
              refine wpAnyE_takes [11, 10, 9] (i := 8) (v := ?_) rfl (by kernel_rfl) (by kernel_rfl) (by kernel_rfl) (by kernel_rfl) (by kernel_rfl) (fun _ _ _ h => h) (Or.inl ⟨by rfl, ?_⟩) hy5 ?_
              rotate_left
              · (intro wy hSw; obtain ⟨hs1, hs2, hs3, hs4⟩ := hSw; go_simp; try with_reducible rfl)
              try simp only [Act.put]
              refine wpAnyE_takes [11, 10] (i := 9) (v := ?_) rfl (by kernel_rfl) (by kernel_rfl) (by kernel_rfl) (by kernel_rfl) (by kernel_rfl) (fun _ _ _ h => h) (Or.inl ⟨by rfl, ?_⟩) hy5 ?_
              rotate_left
              · (intro wy hSw; obtain ⟨hs1, hs2, hs3, hs4⟩ := hSw; go_simp; try with_reducible rfl)
              try simp only [Act.put]
              refine wpAnyE_takes [11] (i := 10) (v := ?_) rfl (by kernel_rfl) (by kernel_rfl) (by kernel_rfl) (by kernel_rfl) (by kernel_rfl) (fun _ _ _ h => h) (Or.inl ⟨by rfl, ?_⟩) hy5 ?_
              rotate_left
              · (intro wy hSw; obtain ⟨hs1, hs2, hs3, hs4⟩ := hSw; go_simp; try with_reducible rfl)
              try simp only [Act.put]
              refine wpAnyE_takes [] (i := 11) (v := ?_) rfl (by kernel_rfl) (by kernel_rfl) (by kernel_rfl) (by kernel_rfl) (by kernel_rfl) (fun _ _ _ h => h) (Or.inl ⟨by rfl, ?_⟩) hy5 ?_
              rotate_left
              · (intro wy hSw; obtain ⟨hs1, hs2, hs3, hs4⟩ := hSw; go_simp; try with_reducible rfl)
              try simp only [Act.put]
              simp only [List.getElem_toArray, List.getElem_cons_succ, List.getElem_cons_zero, List.setIfInBounds_toArray, List.set_cons_succ, List.set_cons_zero]
              refine wpAnyE_takes [17, 14, 13] (i := 12) (v := ?_) rfl (by kernel_rfl) (by kernel_rfl) (by kernel_rfl) (by kernel_rfl) (by kernel_rfl) (fun _ _ _ h => h) (Or.inl ⟨by rfl, ?_⟩) hy5 ?_
              rotate_left
              · (intro wy hSw; obtain ⟨hs1, hs2, hs3, hs4⟩ := hSw; go_simp; try with_reducible rfl)
              try simp only [Act.put]
              refine wpAnyE_takes [17, 14] (i := 13) (v := ?_) rfl (by kernel_rfl) (by kernel_rfl) (by kernel_rfl) (by kernel_rfl) (by kernel_rfl) (fun _ _ _ h => h) (Or.inl ⟨by rfl, ?_⟩) hy5 ?_
              rotate_left
              · (intro wy hSw; obtain ⟨hs1, hs2, hs3, hs4⟩ := hSw; go_simp; try with_reducible rfl)
              try simp only [Act.put]
              refine wpAnyE_takes [17] (i := 14) (v := ?_) rfl (by kernel_rfl) (by kernel_rfl) (by kernel_rfl) (by kernel_rfl) (by kernel_rfl) (fun _ _ _ h => h) (Or.inl ⟨by rfl, ?_⟩) hy5 ?_
              rotate_left
              · (intro wy hSw; obtain ⟨hs1, hs2, hs3, hs4⟩ := hSw; go_simp; try with_reducible rfl)
              try simp only [Act.put]
              simp only [List.getElem_toArray, List.getElem_cons_succ, List.getElem_cons_zero, List.setIfInBounds_toArray, List.set_cons_succ, List.set_cons_zero]
              refine wpAnyE_takes [17, 16] (i := 15) (v := undef) rfl (by kernel_rfl) (by kernel_rfl) (by kernel_rfl) (by kernel_rfl) (by kernel_rfl) (fun _ _ _ h => h) (Or.inr ⟨by rfl, rfl⟩) hy5 ?_
              try simp only [Act.put]
              refine wpAnyE_takes [17] (i := 16) (v := undef) rfl (by kernel_rfl) (by kernel_rfl) (by kernel_rfl) (by kernel_rfl) (by kernel_rfl) (fun _ _ _ h => h) (Or.inr ⟨by rfl, rfl⟩) hy5 ?_
              try simp only [Act.put]
              refine wpAnyE_takes [] (i := 17) (v := ?_) rfl (by kernel_rfl) (by kernel_rfl) (by kernel_rfl) (by kernel_rfl) (by kernel_rfl) (fun _ _ _ h => h) (Or.inl ⟨by rfl, ?_⟩) hy5 ?_
              rotate_left
              · (intro wy hSw; obtain ⟨hs1, hs2, hs3, hs4⟩ := hSw; go_simp; try with_reducible rfl)
              try simp only [Act.put]
              simp only [List.getElem_toArray, List.getElem_cons_succ, List.getElem_cons_zero, List.setIfInBounds_toArray, List.set_cons_succ, List.set_cons_zero]
              refine wpAnyE_last (by kernel_rfl) (by kernel_rfl) rfl (fun K hK => ?_)
              go_simp
              refine hK _ _ ?_
              go_wp2_with fail
              go_meet
              exact ⟨HE.out, Lib.hid (HB4.out.trans (HB5.out.mono HB4.out.size))⟩
            · have t1 : decide (0 < y) = true := decide_eq_true hy0
              rcases lv with _ | _
              · have HE : Hid (Value.bool true = Value.bool gB) := Lib.hid (by rw [HGB.out]; simp [a1, d1, t1])
                obtain ⟨V, hV⟩ : ∃ V, V = x4.drew := ⟨_, rfl⟩
                have hbV : Below x4.heap.size x4 V := by rw [hV]; exact (Below.refl _ _).drew
                have HBV := Lib.hid hbV
                have hy := HYW.out V hbV
                refine wp_region_E 18 (fun w' => w'.cell? ⟨wr.heap.size, 0, none⟩ = some (.string Q) ∧ w'.cell? ⟨x2.heap.size, 0, none⟩ = some (.int .i64 (y : Int)) ∧ w'.cell? ⟨w.heap.size, 0, none⟩ = some (.pointer (some ⟨gk, 0, none⟩)) ∧ w'.cell? ⟨gk, 1, none⟩ = some (.string R)) (by kernel_rfl) ?_
                rw [← hV]
                clear hV hbV
                refine wpAnyE_takes [11, 10, 3, 2, 1] (i := 0) (v := ?_) rfl (by kernel_rfl) (by kernel_rfl) (by kernel_rfl) (by kernel_rfl) (by kernel_rfl) (fun _ _ _ h => h) (Or.inl ⟨by rfl, ?_⟩) hy ?_
                rotate_left
                · (intro wy hSw; obtain ⟨hs1, hs2, hs3, hs4⟩ := hSw; go_simp; try with_reducible rfl)
                try simp only [Act.put, List.setIfInBounds_toArray]
                simp only [List.getElem_toArray, List.getElem_cons_zero, List.set_cons_succ, List.set_cons_zero]
                refine wpAnyE_one (i := 1) (by kernel_rfl) rfl (fun K hK => ?_)
                refine step_call2_dv (by rfl) (some 28) (by rfl) (.const (.string ⟨#[109, 97, 110, 45]⟩)) (.tmp 27) (by rfl) (.string ⟨#[109, 97, 110, 45]⟩) (.string Q) rfl rfl (enters_of Tryz.func28 (by kernel_rfl) rfl) _ (KM.out V) ?_
                rintro e x5 ⟨rfl, hb5⟩
                have hb45 := HBV.out.trans (hb5.mono HBV.out.size)
                have HB5 := Lib.hid hb45
                have hy5 := HYW.out x5 hb45
                refine ⟨_, rfl, ?_⟩
                refine hK _ _ hy5 ?_
                clear hK K hb5 hb45 hy HBV
                simp only [Act.put, List.setIfInBounds_toArray, List.set_cons_succ, List.set_cons_zero]
                refine wpAnyE_takes [11, 10, 3] (i := 2) (v := ?_) rfl (by kernel_rfl) (by kernel_rfl) (by kernel_rfl) (by kernel_rfl) (by kernel_rfl) (fun _ _ _ h => h) (Or.inl ⟨by rfl, ?_⟩) hy5 ?_
                rotate_left
                · (intro wy hSw; obtain ⟨hs1, hs2, hs3, hs4⟩ := hSw; go_simp; try with_reducible rfl)
                try simp only [Act.put]
                refine wpAnyE_takes [11, 10] (i := 3) (v := ?_) rfl (by kernel_rfl) (by kernel_rfl) (by kernel_rfl) (by kernel_rfl) (by kernel_rfl) (fun _ _ _ h => h) (Or.inl ⟨by rfl, ?_⟩) hy5 ?_
                rotate_left
                · (intro wy hSw; obtain ⟨hs1, hs2, hs3, hs4⟩ := hSw; go_simp; try with_reducible rfl)
                try simp only [Act.put]
                simp only [List.getElem_toArray, List.getElem_cons_succ, List.getElem_cons_zero, List.setIfInBounds_toArray, List.set_cons_succ, List.set_cons_zero]
                refine wpAnyE_takes [11, 10, 9] (i := 4) (v := ?_) rfl (by kernel_rfl) (by kernel_rfl) (by kernel_rfl) (by kernel_rfl) (by kernel_rfl) (fun _ _ _ h => h) (Or.inl ⟨by rfl, ?_⟩) hy5 ?_
                rotate_left
                · (intro wy hSw; obtain ⟨hs1, hs2, hs3, hs4⟩ := hSw; go_simp; try with_reducible rfl)
                try simp only [Act.put]
                refine wpAnyE_takes [11, 10, 9, 8, 7, 6] (i := 5) (v := ?_) rfl (by kernel_rfl) (by kernel_rfl) (by kernel_rfl) (by kernel_rfl) (by kernel_rfl) (fun _ _ _ h => h) (Or.inl ⟨by rfl, ?_⟩) hy5 ?_
                rotate_left
                · (intro wy hSw; obtain ⟨hs1, hs2, hs3, hs4⟩ := hSw; go_simp; try with_reducible rfl)
                try simp only [Act.put]
                refine wpAnyE_takes [11, 10, 9, 8, 7] (i := 6) (v := ?_) rfl (by kernel_rfl) (by kernel_rfl) (by kernel_rfl) (by kernel_rfl) (by kernel_rfl) (fun _ _ _ h => h) (Or.inl ⟨by rfl, ?_⟩) hy5 ?_
                rotate_left
                · (intro wy hSw; obtain ⟨hs1, hs2, hs3, hs4⟩ := hSw; go_simp; try with_reducible rfl)
                try simp only [Act.put]
                refine wpAnyE_takes [11, 10, 9, 8] (i := 7) (v := ?_) rfl (by kernel_rfl) (by kernel_rfl) (by kernel_rfl) (by kernel_rfl) (by kernel_rfl) (fun _ _ _ h => h) (Or.inl ⟨by rfl, ?_⟩) hy5 ?_
                rotate_left
                · (intro wy hSw; obtain ⟨hs1, hs2, hs3, hs4⟩ := hSw; go_simp; try with_reducible rfl)
                try simp only [Act.put]
                refine wpAnyE_takes [11, 10, 9] (i := 8) (v := ?_) rfl (by kernel_rfl) (by kernel_rfl) (by kernel_rfl) (by kernel_rfl) (by kernel_rfl) (fun _ _ _ h => h) (Or.inl ⟨by rfl, ?_⟩) hy5 ?_
                rotate_left
                · (intro wy hSw; obtain ⟨hs1, hs2, hs3, hs4⟩ := hSw; go_simp; try with_reducible rfl)
                try simp only [Act.put]
                refine wpAnyE_takes [11, 10] (i := 9) (v := ?_) rfl (by kernel_rfl) (by kernel_rfl) (by kernel_rfl) (by kernel_rfl) (by kernel_rfl) (fun _ _ _ h => h) (Or.inl ⟨by rfl, ?_⟩) hy5 ?_
                rotate_left
                · (intro wy hSw; obtain ⟨hs1, hs2, hs3, hs4⟩ := hSw; go_simp; try with_reducible rfl)
                try simp only [Act.put]
                refine wpAnyE_takes [11] (i := 10) (v := ?_) rfl (by kernel_rfl) (by kernel_rfl) (by kernel_rfl) (by kernel_rfl) (by kernel_rfl) (fun _ _ _ h => h) (Or.inl ⟨by rfl, ?_⟩) hy5 ?_
                rotate_left
                · (intro wy hSw; obtain ⟨hs1, hs2, hs3, hs4⟩ := hSw; go_simp; try with_reducible rfl)
                try simp only [Act.put]
                refine wpAnyE_takes [] (i := 11) (v := ?_) rfl (by kernel_rfl) (by kernel_rfl) (by kernel_rfl) (by kernel_rfl) (by kernel_rfl) (fun _ _ _ h => h) (Or.inl ⟨by rfl, ?_⟩) hy5 ?_
                rotate_left
                · (intro wy hSw; obtain ⟨hs1, hs2, hs3, hs4⟩ := hSw; go_simp; try with_reducible rfl)
                try simp only [Act.put]
                simp only [List.getElem_toArray, List.getElem_cons_succ, List.getElem_cons_zero, List.setIfInBounds_toArray, List.set_cons_succ, List.set_cons_zero]
                refine wpAnyE_takes [17, 14, 13] (i := 12) (v := ?_) rfl (by kernel_rfl) (by kernel_rfl) (by kernel_rfl) (by kernel_rfl) (by kernel_rfl) (fun _ _ _ h => h) (Or.inl ⟨by rfl, ?_⟩) hy5 ?_
                rotate_left
                · (intro wy hSw; obtain ⟨hs1, hs2, hs3, hs4⟩ := hSw; go_simp; try with_reducible rfl)
                try simp only [Act.put]
                refine wpAnyE_takes [17, 14] (i := 13) (v := ?_) rfl (by kernel_rfl) (by kernel_rfl) (by kernel_rfl) (by kernel_rfl) (by kernel_rfl) (fun _ _ _ h => h) (Or.inl ⟨by rfl, ?_⟩) hy5 ?_
                rotate_left
                · (intro wy hSw; obtain ⟨hs1, hs2, hs3, hs4⟩ := hSw; go_simp; try with_reducible rfl)
                try simp only [Act.put]
                refine wpAnyE_takes [17] (i := 14) (v := ?_) rfl (by kernel_rfl) (by kernel_rfl) (by kernel_rfl) (by kernel_rfl) (by kernel_rfl) (fun _ _ _ h => h) (Or.inl ⟨by rfl, ?_⟩) hy5 ?_
                rotate_left
                · (intro wy hSw; obtain ⟨hs1, hs2, hs3, hs4⟩ := hSw; go_simp; try with_reducible rfl)
                try simp only [Act.put]
                simp only [List.getElem_toArray, List.getElem_cons_succ, List.getElem_cons_zero, List.setIfInBounds_toArray, List.set_cons_succ, List.set_cons_zero]
                refine wpAnyE_takes [17, 16] (i := 15) (v := ?_) rfl (by kernel_rfl) (by kernel_rfl) (by kernel_rfl) (by kernel_rfl) (by kernel_rfl) (fun _ _ _ h => h) (Or.inl ⟨by rfl, ?_⟩) hy5 ?_
                rotate_left
                · (intro wy hSw; obtain ⟨hs1, hs2, hs3, hs4⟩ := hSw; go_simp; try with_reducible rfl)
                try simp only [Act.put]
                refine wpAnyE_takes [17] (i := 16) (v := ?_) rfl (by kernel_rfl) (by kernel_rfl) (by kernel_rfl) (by kernel_rfl) (by kernel_rfl) (fun _ _ _ h => h) (Or.inl ⟨by rfl, ?_⟩) hy5 ?_
                rotate_left
                · (intro wy hSw; obtain ⟨hs1, hs2, hs3, hs4⟩ := hSw; go_simp; try with_reducible rfl)
                try simp only [Act.put]
                refine wpAnyE_takes [] (i := 17) (v := ?_) rfl (by kernel_rfl) (by kernel_rfl) (by kernel_rfl) (by kernel_rfl) (by kernel_rfl) (fun _ _ _ h => h) (Or.inl ⟨by rfl, ?_⟩) hy5 ?_
                rotate_left
                · (intro wy hSw; obtain ⟨hs1, hs2, hs3, hs4⟩ := hSw; go_simp; try with_reducible rfl)
                try simp only [Act.put]
                simp only [List.getElem_toArray, List.getElem_cons_succ, List.getElem_cons_zero, List.setIfInBounds_toArray, List.set_cons_succ, List.set_cons_zero]
                refine wpAnyE_last (by kernel_rfl) (by kernel_rfl) rfl (fun K hK => ?_)
                go_simp
                refine hK _ _ ?_
                go_wp2_with fail
                go_meet
                exact ⟨HE.out, Lib.hid (HB4.out.trans (HB5.out.mono HB4.out.size))⟩
              · have HE : Hid (Value.bool false = Value.bool gB) := Lib.hid (by rw [HGB.out]; simp [a1, d1, t1])
                obtain ⟨V, hV⟩ : ∃ V, V = x4.drew := ⟨_, rfl⟩
                have hbV : Below x4.heap.size x4 V := by rw [hV]; exact (Below.refl _ _).drew
                have HBV := Lib.hid hbV
                have hy := HYW.out V hbV
                refine wp_region_E 18 (fun w' => w'.cell? ⟨wr.heap.size, 0, none⟩ = some (.string Q) ∧ w'.cell? ⟨x2.heap.size, 0, none⟩ = some (.int .i64 (y : Int)) ∧ w'.cell? ⟨w.heap.size, 0, none⟩ = some (.pointer (some ⟨gk, 0, none⟩)) ∧ w'.cell? ⟨gk, 1, none⟩ = some (.string R)) (by kernel_rfl) ?_
                rw [← hV]
                clear hV hbV
                refine wpAnyE_takes [11, 10, 3, 2, 1] (i := 0) (v := ?_) rfl (by kernel_rfl) (by kernel_rfl) (by kernel_rfl) (by kernel_rfl) (by kernel_rfl) (fun _ _ _ h => h) (Or.inl ⟨by rfl, ?_⟩) hy ?_
                rotate_left
                · (intro wy hSw; obtain ⟨hs1, hs2, hs3, hs4⟩ := hSw; go_simp; try with_reducible rfl)
                try simp only [Act.put, List.setIfInBounds_toArray]
                simp only [List.getElem_toArray, List.getElem_cons_zero, List.set_cons_succ, List.set_cons_zero]
                refine wpAnyE_one (i := 1) (by kernel_rfl) rfl (fun K hK => ?_)
                refine step_call2_dv (by rfl) (some 28) (by rfl) (.const (.string ⟨#[109, 97, 110, 45]⟩)) (.tmp 27) (by rfl) (.string ⟨#[109, 97, 110, 45]⟩) (.string Q) rfl rfl (enters_of Tryz.func28 (by kernel_rfl) rfl) _ (KM.out V) ?_
                rintro e x5 ⟨rfl, hb5⟩
                have hb45 := HBV.out.trans (hb5.mono HBV.out.size)
                have HB5 := Lib.hid hb45
                have hy5 := HYW.out x5 hb45
                refine ⟨_, rfl, ?_⟩
                refine hK _ _ hy5 ?_
                clear hK K hb5 hb45 hy HBV
                simp only [Act.put, List.setIfInBounds_toArray, List.set_cons_succ, List.set_cons_zero]
                refine wpAnyE_takes [11, 10, 3] (i := 2) (v := ?_) rfl (by kernel_rfl) (by kernel_rfl) (by kernel_rfl) (by kernel_rfl) (by kernel_rfl) (fun _ _ _ h => h) (Or.inl ⟨by rfl, ?_⟩) hy5 ?_
                rotate_left
                · (intro wy hSw; obtain ⟨hs1, hs2, hs3, hs4⟩ := hSw; go_simp; try with_reducible rfl)
                try simp only [Act.put]
                refine wpAnyE_takes [11, 10] (i := 3) (v := ?_) rfl (by kernel_rfl) (by kernel_rfl) (by kernel_rfl) (by kernel_rfl) (by kernel_rfl) (fun _ _ _ h => h) (Or.inl ⟨by rfl, ?_⟩) hy5 ?_
                rotate_left
                · (intro wy hSw; obtain ⟨hs1, hs2, hs3, hs4⟩ := hSw; go_simp; try with_reducible rfl)
                try simp only [Act.put]
                simp only [List.getElem_toArray, List.getElem_cons_succ, List.getElem_cons_zero, List.setIfInBounds_toArray, List.set_cons_succ, List.set_cons_zero]
                refine wpAnyE_takes [11, 10, 9] (i := 4) (v := ?_) rfl (by kernel_rfl) (by kernel_rfl) (by kernel_rfl) (by kernel_rfl) (by kernel_rfl) (fun _ _ _ h => h) (Or.inl ⟨by rfl, ?_⟩) hy5 ?_
                rotate_left
                · (intro wy hSw; obtain ⟨hs1, hs2, hs3, hs4⟩ := hSw; go_simp; try with_reducible rfl)
                try simp only [Act.put]
                refine wpAnyE_takes [11, 10, 9, 8, 7, 6] (i := 5) (v := ?_) rfl (by kernel_rfl) (by kernel_rfl) (by kernel_rfl) (by kernel_rfl) (by kernel_rfl) (fun _ _ _ h => h) (Or.inl ⟨by rfl, ?_⟩) hy5 ?_
                rotate_left
                · (intro wy hSw; obtain ⟨hs1, hs2, hs3, hs4⟩ := hSw; go_simp; try with_reducible rfl)
                try simp only [Act.put]
                refine wpAnyE_takes [11, 10, 9, 8, 7] (i := 6) (v := ?_) rfl (by kernel_rfl) (by kernel_rfl) (by kernel_rfl) (by kernel_rfl) (by kernel_rfl) (fun _ _ _ h => h) (Or.inl ⟨by rfl, ?_⟩) hy5 ?_
                rotate_left
                · (intro wy hSw; obtain ⟨hs1, hs2, hs3, hs4⟩ := hSw; go_simp; try with_reducible rfl)
                try simp only [Act.put]
                refine wpAnyE_takes [11, 10, 9, 8] (i := 7) (v := ?_) rfl (by kernel_rfl) (by kernel_rfl) (by kernel_rfl) (by kernel_rfl) (by kernel_rfl) (fun _ _ _ h => h) (Or.inl ⟨by rfl, ?_⟩) hy5 ?_
                rotate_left
                · (intro wy hSw; obtain ⟨hs1, hs2, hs3, hs4⟩ := hSw; go_simp; try with_reducible rfl)
                try simp only [Act.put]
                refine wpAnyE_takes [11, 10, 9] (i := 8) (v := ?_) rfl (by kernel_rfl) (by kernel_rfl) (by kernel_rfl) (by kernel_rfl) (by kernel_rfl) (fun _ _ _ h => h) (Or.inl ⟨by rfl, ?_⟩) hy5 ?_
                rotate_left
                · (intro wy hSw; obtain ⟨hs1, hs2, hs3, hs4⟩ := hSw; go_simp; try with_reducible rfl)
                try simp only [Act.put]
                refine wpAnyE_takes [11, 10] (i := 9) (v := ?_) rfl (by kernel_rfl) (by kernel_rfl) (by kernel_rfl) (by kernel_rfl) (by kernel_rfl) (fun _ _ _ h => h) (Or.inl ⟨by rfl, ?_⟩) hy5 ?_
                rotate_left
                · (intro wy hSw; obtain ⟨hs1, hs2, hs3, hs4⟩ := hSw; go_simp; try with_reducible rfl)
                try simp only [Act.put]
                refine wpAnyE_takes [11] (i := 10) (v := ?_) rfl (by kernel_rfl) (by kernel_rfl) (by kernel_rfl) (by kernel_rfl) (by kernel_rfl) (fun _ _ _ h => h) (Or.inl ⟨by rfl, ?_⟩) hy5 ?_
                rotate_left
                · (intro wy hSw; obtain ⟨hs1, hs2, hs3, hs4⟩ := hSw; go_simp; try with_reducible rfl)
                try simp only [Act.put]
                refine wpAnyE_takes [] (i := 11) (v := ?_) rfl (by kernel_rfl) (by kernel_rfl) (by kernel_rfl) (by kernel_rfl) (by kernel_rfl) (fun _ _ _ h => h) (Or.inl ⟨by rfl, ?_⟩) hy5 ?_
                rotate_left
                · (intro wy hSw; obtain ⟨hs1, hs2, hs3, hs4⟩ := hSw; go_simp; try with_reducible rfl)
                try simp only [Act.put]
                simp only [List.getElem_toArray, List.getElem_cons_succ, List.getElem_cons_zero, List.setIfInBounds_toArray, List.set_cons_succ, List.set_cons_zero]
                refine wpAnyE_takes [17, 14, 13] (i := 12) (v := ?_) rfl (by kernel_rfl) (by kernel_rfl) (by kernel_rfl) (by kernel_rfl) (by kernel_rfl) (fun _ _ _ h => h) (Or.inl ⟨by rfl, ?_⟩) hy5 ?_
                rotate_left
                · (intro wy hSw; obtain ⟨hs1, hs2, hs3, hs4⟩ := hSw; go_simp; try with_reducible rfl)
                try simp only [Act.put]
                refine wpAnyE_takes [17, 14] (i := 13) (v := ?_) rfl (by kernel_rfl) (by kernel_rfl) (by kernel_rfl) (by kernel_rfl) (by kernel_rfl) (fun _ _ _ h => h) (Or.inl ⟨by rfl, ?_⟩) hy5 ?_
                rotate_left
                · (intro wy hSw; obtain ⟨hs1, hs2, hs3, hs4⟩ := hSw; go_simp; try with_reducible rfl)
                try simp only [Act.put]
                refine wpAnyE_takes [17] (i := 14) (v := ?_) rfl (by kernel_rfl) (by kernel_rfl) (by kernel_rfl) (by kernel_rfl) (by kernel_rfl) (fun _ _ _ h => h) (Or.inl ⟨by rfl, ?_⟩) hy5 ?_
                rotate_left
                · (intro wy hSw; obtain ⟨hs1, hs2, hs3, hs4⟩ := hSw; go_simp; try with_reducible rfl)
                try simp only [Act.put]
                simp only [List.getElem_toArray, List.getElem_cons_succ, List.getElem_cons_zero, List.setIfInBounds_toArray, List.set_cons_succ, List.set_cons_zero]
                refine wpAnyE_takes [17, 16] (i := 15) (v := ?_) rfl (by kernel_rfl) (by kernel_rfl) (by kernel_rfl) (by kernel_rfl) (by kernel_rfl) (fun _ _ _ h => h) (Or.inl ⟨by rfl, ?_⟩) hy5 ?_
                rotate_left
                · (intro wy hSw; obtain ⟨hs1, hs2, hs3, hs4⟩ := hSw; go_simp; try with_reducible rfl)
                try simp only [Act.put]
                refine wpAnyE_takes [17] (i := 16) (v := ?_) rfl (by kernel_rfl) (by kernel_rfl) (by kernel_rfl) (by kernel_rfl) (by kernel_rfl) (fun _ _ _ h => h) (Or.inl ⟨by rfl, ?_⟩) hy5 ?_
                rotate_left
                · (intro wy hSw; obtain ⟨hs1, hs2, hs3, hs4⟩ := hSw; go_simp; try with_reducible rfl)
                try simp only [Act.put]
                refine wpAnyE_takes [] (i := 17) (v := ?_) rfl (by kernel_rfl) (by kernel_rfl) (by kernel_rfl) (by kernel_rfl) (by kernel_rfl) (fun _ _ _ h => h) (Or.inl ⟨by rfl, ?_⟩) hy5 ?_
                rotate_left
                · (intro wy hSw; obtain ⟨hs1, hs2, hs3, hs4⟩ := hSw; go_simp; try with_reducible rfl)
                try simp only [Act.put]
                simp only [List.getElem_toArray, List.getElem_cons_succ, List.getElem_cons_zero, List.setIfInBounds_toArray, List.set_cons_succ, List.set_cons_zero]
                refine wpAnyE_last (by kernel_rfl) (by kernel_rfl) rfl (fun K hK => ?_)
                go_simp
                refine hK _ _ ?_
                go_wp2_with fail
                go_meet
                exact ⟨HE.out, Lib.hid (HB4.out.trans (HB5.out.mono HB4.out.size))⟩
          · have d1 : decide (q ≠ list) = true := decide_eq_true h1
            have HE : Hid (Value.bool true = Value.bool gB) := Lib.hid (by rw [HGB.out]; simp [a1, d1])
            obtain ⟨V, hV⟩ : ∃ V, V = x4.drew := ⟨_, rfl⟩
            have hbV : Below x4.heap.size x4 V := by rw [hV]; exact (Below.refl _ _).drew
            have HBV := Lib.hid hbV
            have hy := HYW.out V hbV
            refine wp_region_E 18 (fun w' => w'.cell? ⟨wr.heap.size, 0, none⟩ = some (.string Q) ∧ w'.cell? ⟨x2.heap.size, 0, none⟩ = some (.int .i64 (y : Int)) ∧ w'.cell? ⟨w.heap.size, 0, none⟩ = some (.pointer (some ⟨gk, 0, none⟩)) ∧ w'.cell? ⟨gk, 1, none⟩ = some (.string R)) (by kernel_rfl) ?_
            rw [← hV]
            clear hV hbV
            refine wpAnyE_takes [11, 10, 3, 2, 1] (i := 0) (v := ?_) rfl (by kernel_rfl) (by kernel_rfl) (by kernel_rfl) (by kernel_rfl) (by kernel_rfl) (fun _ _ _ h => h) (Or.inl ⟨by rfl, ?_⟩) hy ?_
            rotate_left
            · (intro wy hSw; obtain ⟨hs1, hs2, hs3, hs4⟩ := hSw; go_simp; try with_reducible rfl)
            try simp only [Act.put, List.setIfInBounds_toArray]
            simp only [List.getElem_toArray, List.getElem_cons_zero, List.set_cons_succ, List.set_cons_zero]
            refine wpAnyE_one (i := 1) (by kernel_rfl) rfl (fun K hK => ?_)
            refine step_call2_dv (by rfl) (some 28) (by rfl) (.const (.string ⟨#[109, 97, 110, 45]⟩)) (.tmp 27) (by rfl) (.string ⟨#[109, 97, 110, 45]⟩) (.string Q) rfl rfl (enters_of Tryz.func28 (by kernel_rfl) rfl) _ (KM.out V) ?_
            rintro e x5 ⟨rfl, hb5⟩
            have hb45 := HBV.out.trans (hb5.mono HBV.out.size)
            have HB5 := Lib.hid hb45
            have hy5 := HYW.out x5 hb45
            refine ⟨_, rfl, ?_⟩
            refine hK _ _ hy5 ?_
            clear hK K hb5 hb45 hy HBV
            simp only [Act.put, List.setIfInBounds_toArray, List.set_cons_succ, List.set_cons_zero]
            refine wpAnyE_takes [11, 10, 3] (i := 2) (v := ?_) rfl (by kernel_rfl) (by kernel_rfl) (by kernel_rfl) (by kernel_rfl) (by kernel_rfl) (fun _ _ _ h => h) (Or.inl ⟨by rfl, ?_⟩) hy5 ?_
            rotate_left
            · (intro wy hSw; obtain ⟨hs1, hs2, hs3, hs4⟩ := hSw; go_simp; try with_reducible rfl)
            try simp only [Act.put]
            refine wpAnyE_takes [11, 10] (i := 3) (v := ?_) rfl (by kernel_rfl) (by kernel_rfl) (by kernel_rfl) (by kernel_rfl) (by kernel_rfl) (fun _ _ _ h => h) (Or.inl ⟨by rfl, ?_⟩) hy5 ?_
            rotate_left
            · (intro wy hSw; obtain ⟨hs1, hs2, hs3, hs4⟩ := hSw; go_simp; try with_reducible rfl)
            try simp only [Act.put]
            simp only [List.getElem_toArray, List.getElem_cons_succ, List.getElem_cons_zero, List.setIfInBounds_toArray, List.set_cons_succ, List.set_cons_zero]
            refine wpAnyE_takes [11, 10, 9] (i := 4) (v := ?_) rfl (by kernel_rfl) (by kernel_rfl) (by kernel_rfl) (by kernel_rfl) (by kernel_rfl) (fun _ _ _ h => h) (Or.inl ⟨by rfl, ?_⟩) hy5 ?_
            rotate_left
            · (intro wy hSw; obtain ⟨hs1, hs2, hs3, hs4⟩ := hSw; go_simp; try with_reducible rfl)
            try simp only [Act.put]
            refine wpAnyE_takes [11, 10, 9, 8, 7, 6] (i := 5) (v := ?_) rfl (by kernel_rfl) (by kernel_rfl) (by kernel_rfl) (by kernel_rfl) (by kernel_rfl) (fun _ _ _ h => h) (Or.inl ⟨by rfl, ?_⟩) hy5 ?_
            rotate_left
            · (intro wy hSw; obtain ⟨hs1, hs2, hs3, hs4⟩ := hSw; go_simp; try with_reducible rfl)
            try simp only [Act.put]
            refine wpAnyE_takes [11, 10, 9, 8, 7] (i := 6) (v := ?_) rfl (by kernel_rfl) (by kernel_rfl) (by kernel_rfl) (by kernel_rfl) (by kernel_rfl) (fun _ _ _ h => h) (Or.inl ⟨by rfl, ?_⟩) hy5 ?_
            rotate_left
            · (intro wy hSw; obtain ⟨hs1, hs2, hs3, hs4⟩ := hSw; go_simp; try with_reducible rfl)
            try simp only [Act.put]
            refine wpAnyE_takes [11, 10, 9, 8] (i := 7) (v := ?_) rfl (by kernel_rfl) (by kernel_rfl) (by kernel_rfl) (by kernel_rfl) (by kernel_rfl) (fun _ _ _ h => h) (Or.inl ⟨by rfl, ?_⟩) hy5 ?_
            rotate_left
            · (intro wy hSw; obtain ⟨hs1, hs2, hs3, hs4⟩ := hSw; go_simp; try with_reducible rfl)
            try simp only [Act.put]
            refine wpAnyE_takes [11, 10, 9] (i := 8) (v := ?_) rfl (by kernel_rfl) (by kernel_rfl) (by kernel_rfl) (by kernel_rfl) (by kernel_rfl) (fun _ _ _ h => h) (Or.inl ⟨by rfl, ?_⟩) hy5 ?_
            rotate_left
            · (intro wy hSw; obtain ⟨hs1, hs2, hs3, hs4⟩ := hSw; go_simp; try with_reducible rfl)
            try simp only [Act.put]
            refine wpAnyE_takes [11, 10] (i := 9) (v := ?_) rfl (by kernel_rfl) (by kernel_rfl) (by kernel_rfl) (by kernel_rfl) (by kernel_rfl) (fun _ _ _ h => h) (Or.inl ⟨by rfl, ?_⟩) hy5 ?_
            rotate_left
            · (intro wy hSw; obtain ⟨hs1, hs2, hs3, hs4⟩ := hSw; go_simp; try with_reducible rfl)
            try simp only [Act.put]
            refine wpAnyE_takes [11] (i := 10) (v := ?_) rfl (by kernel_rfl) (by kernel_rfl) (by kernel_rfl) (by kernel_rfl) (by kernel_rfl) (fun _ _ _ h => h) (Or.inl ⟨by rfl, ?_⟩) hy5 ?_
            rotate_left
            · (intro wy hSw; obtain ⟨hs1, hs2, hs3, hs4⟩ := hSw; go_simp; try with_reducible rfl)
            try simp only [Act.put]
            refine wpAnyE_takes [] (i := 11) (v := ?_) rfl (by kernel_rfl) (by kernel_rfl) (by kernel_rfl) (by kernel_rfl) (by kernel_rfl) (fun _ _ _ h => h) (Or.inl ⟨by rfl, ?_⟩) hy5 ?_
            rotate_left
            · (intro wy hSw; obtain ⟨hs1, hs2, hs3, hs4⟩ := hSw; go_simp; try with_reducible rfl)
            try simp only [Act.put]
            simp only [List.getElem_toArray, List.getElem_cons_succ, List.getElem_cons_zero, List.setIfInBounds_toArray, List.set_cons_succ, List.set_cons_zero]
            refine wpAnyE_takes [17, 14, 13] (i := 12) (v := undef) rfl (by kernel_rfl) (by kernel_rfl) (by kernel_rfl) (by kernel_rfl) (by kernel_rfl) (fun _ _ _ h => h) (Or.inr ⟨by rfl, rfl⟩) hy5 ?_
            try simp only [Act.put]
            refine wpAnyE_takes [17, 14] (i := 13) (v := undef) rfl (by kernel_rfl) (by kernel_rfl) (by kernel_rfl) (by kernel_rfl) (by kernel_rfl) (fun _ _ _ h => h) (Or.inr ⟨by rfl, rfl⟩) hy5 ?_
            try simp only [Act.put]
            refine wpAnyE_takes [17] (i := 14) (v := undef) rfl (by kernel_rfl) (by kernel_rfl) (by kernel_rfl) (by kernel_rfl) (by kernel_rfl) (fun _ _ _ h => h) (Or.inr ⟨by rfl, rfl⟩) hy5 ?_
            try simp only [Act.put]
            simp only [List.getElem_toArray, List.getElem_cons_succ, List.getElem_cons_zero, List.setIfInBounds_toArray, List.set_cons_succ, List.set_cons_zero]
            refine wpAnyE_takes [17, 16] (i := 15) (v := undef) rfl (by kernel_rfl) (by kernel_rfl) (by kernel_rfl) (by kernel_rfl) (by kernel_rfl) (fun _ _ _ h => h) (Or.inr ⟨by rfl, rfl⟩) hy5 ?_
            try simp only [Act.put]
            refine wpAnyE_takes [17] (i := 16) (v := undef) rfl (by kernel_rfl) (by kernel_rfl) (by kernel_rfl) (by kernel_rfl) (by kernel_rfl) (fun _ _ _ h => h) (Or.inr ⟨by rfl, rfl⟩) hy5 ?_
            try simp only [Act.put]
            refine wpAnyE_takes [] (i := 17) (v := undef) rfl (by kernel_rfl) (by kernel_rfl) (by kernel_rfl) (by kernel_rfl) (by kernel_rfl) (fun _ _ _ h => h) (Or.inr ⟨by rfl, rfl⟩) hy5 ?_
            try simp only [Act.put]
            simp only [List.getElem_toArray, List.getElem_cons_succ, List.getElem_cons_zero, List.setIfInBounds_toArray, List.set_cons_succ, List.set_cons_zero]
            refine wpAnyE_last (by kernel_rfl) (by kernel_rfl) rfl (fun K hK => ?_)
            go_simp
            refine hK _ _ ?_
            go_wp2_with fail
            go_meet
            exact ⟨HE.out, Lib.hid (HB4.out.trans (HB5.out.mono HB4.out.size))⟩
      case rest =>
        obtain ⟨rfl, HB5⟩ := hcut
        have hg := HG.out
        clear HGB HG
        subst hg
        go_wp2_with fail
        exact ⟨⟨rfl, k + 1, hlt, by simp, HB5⟩, by simp only [intOf]; omega⟩
    · have hlt' : ¬ (k : Int) < (L.length : Int) := by omega
      have KA := Lib.hid (all_any (σ := Unit) [] [] rfl (fun _ _ X => Below w.heap.size w X) none 0 () wr (HB2.out.trans (HBR.out.mono HB2.out.size)) (by simp) (fun _ _ X _ => RdS.nil) (fun f hf => by cases hf) (fun k hk => absurd hk (Nat.not_lt_zero _)))
      go_wp2_with fail
      refine KA.out.mono ?_
      rintro e x9 ⟨rfl, _, hb9⟩
      have HB9 := Lib.hid hb9
      clear hb9
      simp only [allP]
      go_wp2_with fail
      go_ret
      exact ⟨rfl, HB9.out⟩
end Ver
end Go.Proofs.YtekbdedpombgcaaGreatDoor

namespace Go.Proofs.YtekbdedpombgcaaGreatDoor
open Go.RowKit Go.Maps

namespace Ver
theorem state_size : (Tryz.prog.info? 63).map (fun x => x.size) = some 3 := by kernel_rfl
set_option maxHeartbeats 1000000 in
set_option maxRecDepth 100000 in
theorem state_any (w : World) (bs g gk : Nat) (list : Sto.Str) (A : Option Addr) (c : Nat) (l : List Vf) (log next : Int) (br : Bool) (hk : w.heap[gk]? = some (bkObj g list A l c log next br)) (hov : OwV w bs A c l) (hll : l.length ≤ 1000000) (hb : ∀ v ∈ l, v.first.length ≤ 1000000 ∧ v.last.length ≤ 1000000) :
    Calls Tryz.prog 13 #[.pointer (some ⟨gk, 0, none⟩)] w fun e w' => ∃ (A' : Option Addr) (c' : Nat) (l' : List Vf), e = .returned (.agg #[.slice A' l'.length c', .int .i64 log, .int .i64 next]) ∧ l'.map Vf.fi = l.map Vf.fi ∧ OwV w' w.heap.size A' c' l' ∧ Below w.heap.size w w' := by
  obtain ⟨w2, hw2⟩ : ∃ w2, w2 = (w.alloc (.cells #[.slice none 0 0, .int .i64 0, .int .i64 0] 63)).alloc (.cells #[.slice A l.length c, .int .i64 log, .int .i64 next] 63) := ⟨_, rfl⟩
  have hb2 : Below w.heap.size w w2 := by rw [hw2]; exact ((Below.refl _ _).alloc (Nat.le_refl _) _).alloc (by simp) _
  have KC := Lib.hid (vcopied_any l A c w2 (hov.below hb2).rd hll hb)
  have hkX : ∀ X, Below w.heap.size w X → X.cell? ⟨gk, 2, none⟩ = some (.slice A l.length c) ∧ X.cell? ⟨gk, 3, none⟩ = some (.int .i64 log) ∧ X.cell? ⟨gk, 4, none⟩ = some (.int .i64 next) := fun X hX => by
    have hk := (hX.block _ (Array.getElem?_eq_some_iff.1 hk).1).trans hk
    exact ⟨by rw [cell_of_row X _ 2 _ _ (0, 0) hk]; rfl, by rw [cell_of_row X _ 3 _ _ (0, 0) hk]; rfl, by rw [cell_of_row X _ 4 _ _ (0, 0) hk]; rfl⟩
  obtain ⟨k1, k2, k3⟩ := hkX (w.alloc (.cells #[.slice none 0 0, .int .i64 0, .int .i64 0] 63)) ((Below.refl _ _).alloc (Nat.le_refl _) _)
  have HB2 := Lib.hid hb2
  have HW2 := Lib.hid hw2
  rw [hw2] at KC
  clear hk hov hw2 hb2 hkX hb
  go_enter Tryz.func13, Tryz.ntmps13
  go_wp2_with fail
  refine KC.out.mono ?_
  rintro e w3 ⟨A', c', l', rfl, hf, ho, hb3⟩
  have hz2 : w2.heap.size = w.heap.size + 1 + 1 := by rw [HW2.out]; simp
  rw [← HW2.out] at ho hb3
  have x0 : w3.heap[w.heap.size]? = some (.cells #[.slice none 0 0, .int .i64 0, .int .i64 0] 63) := by
    refine (hb3.block _ (by omega)).trans ?_
    rw [HW2.out, Below.heap_alloc _ _ _ (by simp)]
    exact heap_alloc_new w _
  have x1 : w3.heap[w.heap.size + 1]? = some (.cells #[.slice A l.length c, .int .i64 log, .int .i64 next] 63) := by
    refine (hb3.block _ (by omega)).trans ?_
    rw [HW2.out]
    have := heap_alloc_new (w.alloc (.cells #[.slice none 0 0, .int .i64 0, .int .i64 0] 63)) (.cells #[.slice A l.length c, .int .i64 log, .int .i64 next] 63)
    simpa using this
  obtain ⟨p0, p1, p2⟩ : w3.cell? ⟨w.heap.size, 0, none⟩ = some (.slice none 0 0) ∧ w3.cell? ⟨w.heap.size, 1, none⟩ = some (.int .i64 0) ∧ w3.cell? ⟨w.heap.size, 2, none⟩ = some (.int .i64 0) := ⟨by rw [cell_of_row _ _ 0 _ _ (0, 0) x0]; rfl, by rw [cell_of_row _ _ 1 _ _ (0, 0) x0]; rfl, by rw [cell_of_row _ _ 2 _ _ (0, 0) x0]; rfl⟩
  obtain ⟨q0, q1, q2⟩ : w3.cell? ⟨w.heap.size + 1, 0, none⟩ = some (.slice A l.length c) ∧ w3.cell? ⟨w.heap.size + 1, 1, none⟩ = some (.int .i64 log) ∧ w3.cell? ⟨w.heap.size + 1, 2, none⟩ = some (.int .i64 next) := ⟨by rw [cell_of_row _ _ 0 _ _ (0, 0) x1]; rfl, by rw [cell_of_row _ _ 1 _ _ (0, 0) x1]; rfl, by rw [cell_of_row _ _ 2 _ _ (0, 0) x1]; rfl⟩
  have f0 := frozen_of_row w3 _ 0 _ _ x0
  have f1 := frozen_of_row w3 _ 1 _ _ x0
  have f2 := frozen_of_row w3 _ 2 _ _ x0
  have f3 := frozen_of_row w3 _ 0 _ _ x1
  have HX0 := Lib.hid x0
  have HX1 := Lib.hid x1
  have HB3 := Lib.hid (HB2.out.trans (hb3.mono HB2.out.size))
  have HO := Lib.hid ho
  have HZ2 := Lib.hid hz2
  have HZ := Lib.hid hb3.size
  have HF := Lib.hid hf
  clear hz2 x0 x1 hb3 ho hf KC HW2
  go_wp2_with fail
  clear p0 p1 p2 q0 q1 q2 f0 f1 f2 f3 k1 k2 k3
  have hne : w.heap.size ≠ w.heap.size + 1 := by omega
  have hbf : Below w.heap.size w ((((w3.setCell ⟨w.heap.size + 1, 0, none⟩ (.slice A' l'.length c')).setCell ⟨w.heap.size, 0, none⟩ (.slice A' l'.length c')).setCell ⟨w.heap.size, 1, none⟩ (.int .i64 log)).setCell ⟨w.heap.size, 2, none⟩ (.int .i64 next)) := ((((HB3.out.setCell (Nat.le_succ _) _).setCell (Nat.le_refl _) _).setCell (Nat.le_refl _) _).setCell (Nat.le_refl _) _)
  have hx : ((((w3.setCell ⟨w.heap.size + 1, 0, none⟩ (.slice A' l'.length c')).setCell ⟨w.heap.size, 0, none⟩ (.slice A' l'.length c')).setCell ⟨w.heap.size, 1, none⟩ (.int .i64 log)).setCell ⟨w.heap.size, 2, none⟩ (.int .i64 next)).heap[w.heap.size]? = some (.cells #[.slice A' l'.length c', .int .i64 log, .int .i64 next] 63) := by
    have h0 := (Below.heap_setCell w3 ⟨w.heap.size + 1, 0, none⟩ (.slice A' l'.length c') w.heap.size hne).trans HX0.out
    have h1 := heap_setCell_same _ w.heap.size 0 _ 63 (.slice A' l'.length c') h0
    have h2 := heap_setCell_same _ w.heap.size 1 _ 63 (.int .i64 log) h1
    have h3 := heap_setCell_same _ w.heap.size 2 _ 63 (.int .i64 next) h2
    simpa using h3
  have hz3 : w2.heap.size ≤ w3.heap.size := HZ.out
  have hoF := HO.out.keep (w' := ((((w3.setCell ⟨w.heap.size + 1, 0, none⟩ (.slice A' l'.length c')).setCell ⟨w.heap.size, 0, none⟩ (.slice A' l'.length c')).setCell ⟨w.heap.size, 1, none⟩ (.int .i64 log)).setCell ⟨w.heap.size, 2, none⟩ (.int .i64 next))) (by simp [World.setCell]) (fun q e => by
    have hq := (owV_lt HO.out e).1
    have n1 : q ≠ w.heap.size + 1 := by have := HZ2.out; omega
    have n2 : q ≠ w.heap.size := by have := HZ2.out; omega
    rw [Below.heap_setCell _ _ _ _ n2, Below.heap_setCell _ _ _ _ n2, Below.heap_setCell _ _ _ _ n2, Below.heap_setCell _ _ _ _ n1])
  refine bodyPost_ret (results_cell_row rfl _ _ w.heap.size 63 #[.slice A' l'.length c', .int .i64 log, .int .i64 next] (0, 0) _ rfl hx Tryz.underlying63 rfl state_size) rfl ?_
  exact ⟨A', c', l', rfl, HF.out, hoF.mono (by have := HZ2.out; omega), hbf⟩
end Ver
end Go.Proofs.YtekbdedpombgcaaGreatDoor

namespace Go.Proofs.YtekbdedpombgcaaGreatDoor
open Go.RowKit Go.Maps

namespace Ver
theorem AftB.new {w w1 w' : World} {g gk : Nat} {m m' : Sto.Mem} (hb : Below w.heap.size w w1) (hg : w.heap.size ≤ gk) (h : AftB w1 w' g gk m m') : Sto.Aft w w' g m m' :=
  ⟨h.os.trans hb.os, h.tape.trans hb.tape, h.output.trans hb.output, Nat.le_trans hb.size h.size, fun k hk hn => (h.block k (Nat.lt_of_lt_of_le hk hb.size) hn (by omega)).trans (hb.block k hk), fun k hk hm => h.turn k (Nat.lt_of_lt_of_le hk hb.size) hm, fun k hk hm => h.pa k (Nat.lt_of_lt_of_le hk hb.size) hm⟩
set_option maxHeartbeats 2000000 in
set_option maxRecDepth 100000 in
theorem open_new (w : World) (base g : Nat) (m : Sto.Mem) (s : Sto.St) (h : Sto.StAt w base g s m) (ht : TabU base w) (hoff : s.off = false) (hl : s.kept.length ≤ 800000) (hf : s.files.length ≤ 800000) (hcur : curB ∉ Sto.names s)
    (p : (Int × Sto.St) × Sto.Str) (hp : p = beginP s [] (edSt ⟨[], 0, 1⟩)) (h0 : p.1.1 = 0) (hno : ∀ n ∈ Sto.names p.1.2, goneB [] p.2 n = false) (hsz : p.1.2.files.length ≤ 1000000) :
    Calls Tryz.prog 12 #[.pointer (some ⟨g, 0, none⟩)] w fun e w' => ∃ gk m', e = .returned (.tuple #[.pointer (some ⟨gk, 0, none⟩), .int .i64 0]) ∧ w.heap.size ≤ gk ∧ Sto.StAt w' base g p.1.2 m' ∧ Sto.Aft w w' g m m' ∧ w'.heap[gk]? = some (bkObj g p.2 none [] 0 0 1 false) := by
  have hnl : (Sto.names s).length ≤ 800000 := by
    unfold Sto.names
    rw [List.length_map]
    exact Nat.le_trans h.r.ok.gnow.len hf
  have KO := Lib.hid (Sto.off_any h)
  rw [hoff] at KO
  obtain ⟨w1, hw1⟩ : ∃ w1, w1 = w.alloc (.cells #[.pointer (some ⟨g, 0, none⟩), .string ⟨#[]⟩, .slice none 0 0, .int .i64 0, .int .i64 1, .bool false] 93) := ⟨_, rfl⟩
  have hb1 : Below w.heap.size w w1 := by rw [hw1]; exact (Below.refl _ _).alloc (Nat.le_refl _) _
  have hx1 : w1.heap[w.heap.size]? = some (bkObj g [] none [] 0 0 1 false) := by rw [hw1]; exact heap_alloc_new w _
  have KN := Lib.hid (Sto.names_any (h.below hb1) (by omega))
  have HB1 := Lib.hid hb1
  have HX1 := Lib.hid hx1
  have HP := Lib.hid hp
  have H0 := Lib.hid h0
  have HNO := Lib.hid hno
  have HS0 := Lib.hid h
  have HT := Lib.hid ht
  have HCU := Lib.hid hcur
  rw [hw1] at KN
  clear h hb1 hx1 hp h0 hno ht hcur hoff
  go_enter Tryz.func12, Tryz.ntmps12
  go_wp2_with fail
  refine KO.out.mono ?_
  rintro e w9 ⟨rfl, rfl⟩
  clear KO
  go_wp2_with fail
  refine KN.out.mono ?_
  rw [← hw1]
  rintro e w2 ⟨NA, nc, rfl, hno, hb2⟩
  have KC := Lib.hid (scontains_any NA nc (Sto.names s) curB w2 hno.rd (by omega))
  rw [decide_eq_false HCU.out] at KC
  have hbb : Below w9.heap.size w9 w2 := HB1.out.trans (hb2.mono HB1.out.size)
  have hx2 := (hb2.block _ (Array.getElem?_eq_some_iff.1 HX1.out).1).trans HX1.out
  have HB2 := Lib.hid hbb
  have HX2 := Lib.hid hx2
  have hs2 := HS0.out.below hbb
  have hbase := (HS0.out.r.mut_ge (.inl rfl))
  have ht2 : TabU base w2 := HT.out.keep (hbb.mono (by omega))
  unfold curB at KC
  clear hno hbb hx2 hb2 KN hw1
  go_wp2_with fail
  refine KC.out.mono ?_
  rintro e w8 ⟨rfl, rfl⟩
  clear KC
  obtain ⟨w3, hw3⟩ : ∃ w3, w3 = w8.alloc (.cells #[.func (.func 31) #[.pointer (some ⟨w9.heap.size, 0, none⟩)] #[], .func (.func 32) #[.pointer (some ⟨w9.heap.size, 0, none⟩)] #[]] 100) := ⟨_, rfl⟩
  have hb3 : Below w8.heap.size w8 w3 := by rw [hw3]; exact (Below.refl _ _).alloc (Nat.le_refl _) _
  have hx3 : w3.heap[w8.heap.size]? = some (.cells #[.func (.func 31) #[.pointer (some ⟨w9.heap.size, 0, none⟩)] #[], .func (.func 32) #[.pointer (some ⟨w9.heap.size, 0, none⟩)] #[]] 100) := by rw [hw3]; exact heap_alloc_new w8 _
  have hxk : w3.heap[w9.heap.size]? = some (bkObj g [] none [] 0 0 1 false) := (hb3.block _ (Array.getElem?_eq_some_iff.1 HX2.out).1).trans HX2.out
  have hs3 := hs2.below hb3
  have hb8 : base ≤ w8.heap.size := by have := HB2.out.size; omega
  have ht3 : TabU base w3 := ht2.keep (hb3.mono hb8)
  obtain ⟨fs, hfs⟩ : ∃ fs : List Fc, fs = [⟨31, [.pointer (some ⟨w9.heap.size, 0, none⟩)], []⟩, ⟨32, [.pointer (some ⟨w9.heap.size, 0, none⟩)], []⟩] := ⟨_, rfl⟩
  have KB := begin_any w3 base base g w9.heap.size m s hs3 ht3 hl hf [] none 0 [] 0 1 false hxk (OwV.nil w3 base) (fun q e => by
    rcases e with e | ⟨v, hv, _⟩
    · cases e
    · cases hv) (by simp)
  have hp9 := HP.out
  rw [show edSt ⟨[], 0, 1⟩ = edSt ⟨([] : List Vf).map Vf.fi, 0, 1⟩ from rfl] at hp9
  rw [← hp9] at KB
  have KA := Lib.hid (all_any (σ := Bool × Sto.St) fs [fun _ => (p.1.1, (true, p.1.2)), fun s => (0, s)] (by rw [hfs]; rfl) (fun k y X => (X.heap[w8.heap.size]? = w3.heap[w8.heap.size]?) ∧ (k = 0 → y.1 = false ∧ X = w3) ∧ (0 < k → y.2 = p.1.2 ∧ ∃ m', Sto.StAt X base g p.1.2 m' ∧ AftB w3 X g w9.heap.size m m' ∧ X.heap[w9.heap.size]? = some (bkObj g p.2 none [] 0 0 1 false))) (some ⟨w8.heap.size, 0, none⟩) 2 (false, s) w3 ⟨rfl, fun _ => ⟨rfl, rfl⟩, fun h => absurd h (by omega)⟩ (by rw [hfs]; simp)
    (fun k y X hX => by
      have e := hX.1.trans hx3
      subst hfs
      refine RdS.of (f := F1) (n := 1) (fun _ => rfl) _ 0 (Array.getElem?_eq_some_iff.1 e).1 (fun k hk j u hj => ?_)
      have hj0 : j = 0 := by
        rcases j with _ | j
        · rfl
        · simp [F1] at hj
      subst hj0
      rw [cell_of_row _ _ _ _ _ (0, 0) e]
      rcases k with _ | _ | k
      · simpa [F1, Fc.val] using hj
      · simpa [F1, Fc.val] using hj
      · exfalso; simp only [List.length_cons, List.length_nil] at hk; omega)
    (fun f hf args w => by
      subst hfs
      simp only [List.mem_cons, List.not_mem_nil, or_false] at hf
      rcases hf with rfl | rfl <;> rfl)
    (fun k hk y X hX => by
      obtain ⟨h1, h2, h3⟩ := hX
      subst hfs
      rcases k with _ | _ | k
      · obtain ⟨_, e⟩ := h2 rfl
        subst e
        refine KB.mono ?_
        rintro e W' ⟨he, m', a1, a2, a3⟩
        refine ⟨he, ?_, by omega, fun _ => ⟨rfl, m', a1, a2, a3⟩⟩
        refine a2.block _ (Array.getElem?_eq_some_iff.1 hx3).1 (fun hm => ?_) ?_
        · have := (HS0.out.r.mut_ge hm).2
          have := HB2.out.size
          omega
        · have := (Array.getElem?_eq_some_iff.1 HX2.out).1
          omega
      · obtain ⟨hy, m', a1, a2, a3⟩ := h3 (by omega)
        refine (clean_none X base base g w9.heap.size m' p.1.2 a1 hsz p.2 none 0 [] 0 1 false a3 (OwV.nil X base) (by simp) HNO.out).mono ?_
        rintro e W' ⟨he, hb⟩
        refine ⟨he, (hb.block _ (Array.getElem?_eq_some_iff.1 (h1.trans hx3)).1).trans h1, by omega, fun _ => ⟨hy, m', a1.below hb, a2.trans (AftB.of (Sto.Aft.of_below hb)), (hb.block _ (Array.getElem?_eq_some_iff.1 a3).1).trans a3⟩⟩
      · exfalso; simp only [List.length_cons, List.length_nil] at hk; omega))
  have e2 : fs.length = 2 := by rw [hfs]; rfl
  have ep : allP [fun _ : Bool × Sto.St => (p.1.1, (true, p.1.2)), fun s => ((0 : Int), s)] (false, s) = (0, (true, p.1.2)) := by
    rw [show allP [fun _ : Bool × Sto.St => (p.1.1, (true, p.1.2)), fun s => ((0 : Int), s)] (false, s) = if p.1.1 = 0 then (0, (true, p.1.2)) else (p.1.1, (true, p.1.2)) from rfl, if_pos H0.out]
  rw [e2, ep] at KA
  have HB3 := Lib.hid hb3
  rw [hw3] at KA
  clear hb3 hx3 hxk hs3 ht3 hfs KB ep ht2 hs2 hp9
  go_wp2_with fail
  refine KA.out.mono ?_
  rw [← hw3]
  rintro e w4 ⟨rfl, j, -, h2, h3⟩
  have HF : Hid (∃ m', Sto.StAt w4 base g p.1.2 m' ∧ Sto.Aft w9 w4 g m m' ∧ w4.heap[w9.heap.size]? = some (bkObj g p.2 none [] 0 0 1 false)) := Lib.hid (by
    rcases Nat.eq_zero_or_pos j with h | h
    · have := (h2 h).1
      cases this
    · obtain ⟨_, m', a1, a2, a3⟩ := h3 h
      exact ⟨m', a1, AftB.new (HB2.out.trans (HB3.out.mono HB2.out.size)) (Nat.le_refl _) a2, a3⟩)
  clear h2 h3 KA hw3
  go_wp2_with fail
  go_ret2
  obtain ⟨m', a1, a2, a3⟩ := HF.out
  exact ⟨_, m', rfl, Nat.le_refl _, a1, a2, a3⟩
end Ver
end Go.Proofs.YtekbdedpombgcaaGreatDoor
