/- Lifting, second part: how Go's values read as plain data. No statement of the program stands here. -/
import Derived.Test.YtbkmnghnjajdmaaLia
set_option linter.unusedVariables false
set_option linter.unusedSimpArgs false
namespace Go.Lift
open Go Go.RowKit Go.Eng

/-! ## Memory: whose block is it? O b = 0: nobody's, it stays as it is. -/
abbrev Tags := Nat → Nat
def Keep (k : Nat) (O : Tags) (w : World) (O' : Tags) (w' : World) : Prop :=
  w.heap.size ≤ w'.heap.size ∧ ∀ b, b < w.heap.size → O b = k → O' b = k ∧ w'.heap[b]? = w.heap[b]?
theorem Keep.refl (k : Nat) (O : Tags) (w : World) : Keep k O w O w := ⟨Nat.le_refl _, fun _ _ h => ⟨h, rfl⟩⟩
theorem Keep.trans {k : Nat} {O O' O'' : Tags} {w w' w'' : World} (h : Keep k O w O' w') (h' : Keep k O' w' O'' w'') : Keep k O w O'' w'' :=
  ⟨Nat.le_trans h.1 h'.1, fun b hb ho => by
    obtain ⟨h1, h2⟩ := h.2 b hb ho
    obtain ⟨h3, h4⟩ := h'.2 b (Nat.lt_of_lt_of_le hb h.1) h1
    exact ⟨h3, h4.trans h2⟩⟩
theorem Keep.ext {k : Nat} {O : Tags} {w w' : World} (h : Ext w w') : Keep k O w O w' := ⟨h.size, fun b hb ho => ⟨ho, h.block b hb⟩⟩
/-- all but the blocks of tag j -/
def KX (j : Option Nat) (O : Tags) (w : World) (O' : Tags) (w' : World) : Prop :=
  w.heap.size ≤ w'.heap.size ∧ ∀ b, b < w.heap.size → some (O b) ≠ j → O' b = O b ∧ w'.heap[b]? = w.heap[b]?
theorem KX.keep {j : Option Nat} {k : Nat} {O O' : Tags} {w w' : World} (h : KX j O w O' w') (hk : some k ≠ j) : Keep k O w O' w' :=
  ⟨h.1, fun b hb ho => by obtain ⟨h1, h2⟩ := h.2 b hb (by rw [ho]; exact hk); exact ⟨h1.trans ho, h2⟩⟩
theorem KX.ext {O : Tags} {w w' : World} (h : Ext w w') : KX none O w O w' := ⟨h.size, fun b hb _ => ⟨rfl, h.block b hb⟩⟩
def OkO (O : Tags) (w : World) : Prop := ∀ b, w.heap.size ≤ b → O b = 0
theorem OkO.ext {O : Tags} {w w' : World} (h : OkO O w) (hE : Ext w w') : OkO O w' := fun b hb => h b (Nat.le_trans hE.size hb)
def tag (O : Tags) (o : Option Nat) (k : Nat) : Tags := fun b => if o = some b then k else O b
theorem tag_same (O : Tags) (b k : Nat) : tag O (some b) k b = k := by simp [tag]
theorem tag_ne {O : Tags} {o : Option Nat} {b k : Nat} (h : o ≠ some b) : tag O o k b = O b := by simp [tag, h]
theorem OkO.tag {O : Tags} {w : World} (h : OkO O w) {o : Option Nat} {k : Nat} (ho : ∀ g, o = some g → g < w.heap.size) : OkO (tag O o k) w := by
  intro b hb
  by_cases hg : o = some b
  · exact absurd (ho b hg) (by omega)
  · rw [tag_ne hg]; exact h b hb
/-- a new block gets a tag -/
theorem KX.tag {O : Tags} {w w' : World} {o : Option Nat} {k : Nat} (h : Ext w w') (ho : ∀ g, o = some g → w.heap.size ≤ g) : KX none O w (Go.Lift.tag O o k) w' :=
  ⟨h.size, fun b hb _ => ⟨tag_ne (fun e => by have := ho b e; omega), h.block b hb⟩⟩
/-- a block's tag goes -/
theorem KX.free {O : Tags} {w : World} {o : Option Nat} {k : Nat} (h : ∀ g, o = some g → O g = k) : KX (some k) O w (Go.Lift.tag O o 0) w :=
  ⟨Nat.le_refl _, fun b _ hk => ⟨tag_ne (fun e => hk (by rw [h b e])), rfl⟩⟩

/-! ## Representations -/
structure GR (α : Type) where
  agg : Bool
  sz : Nat
  rel : Tags → World → List Value → α → Prop
  len : ∀ {O w cs x}, rel O w cs x → cs.length = sz
  one : ∀ {O w cs x}, rel O w cs x → ∀ c ∈ cs, c.oneCell' = true
  mono : ∀ {O w O' w' cs x}, Keep 0 O w O' w' → rel O w cs x → rel O' w' cs x
variable {α β γ δ : Type}
def packV (agg : Bool) (cs : List Value) : Value := match agg with | true => .agg cs.toArray | false => cs.headD undef
def GR.v (r : GR α) (O : Tags) (w : World) (v : Value) (x : α) : Prop := ∃ cs, r.rel O w cs x ∧ v = packV r.agg cs
theorem GR.v_mono (r : GR α) {O w O' w' v x} (h : r.v O w v x) (hk : Keep 0 O w O' w') : r.v O' w' v x := by
  obtain ⟨cs, h1, h2⟩ := h
  exact ⟨cs, r.mono hk h1, h2⟩
theorem GR.v_ext (r : GR α) {O w w' v x} (h : r.v O w v x) (hE : Ext w w') : r.v O w' v x := r.v_mono h (Keep.ext hE)
/-- a representation whose value has the cells that it says: a lone cell for what is no struct or array -/
def GR.fits (r : GR α) : Prop := r.agg = false → r.sz = 1
theorem cells_pack {agg : Bool} {cs : List Value} (h : agg = false → cs.length = 1) (h1 : ∀ c ∈ cs, c.oneCell' = true) : (packV agg cs).cells = cs.toArray := by
  cases agg with
  | true => rfl
  | false =>
    have := h rfl
    match cs, this with
    | [c], _ =>
      have := h1 c (by simp)
      cases c <;> first | rfl | (simp [Value.oneCell'] at this)
theorem GR.cells (r : GR α) (hr : r.fits) {O w v x} (h : r.v O w v x) : ∃ cs, r.rel O w cs x ∧ v = packV r.agg cs ∧ v.cells = cs.toArray := by
  obtain ⟨cs, h1, h2⟩ := h
  refine ⟨cs, h1, h2, ?_⟩
  rw [h2]
  exact cells_pack (fun ha => by rw [r.len h1, hr ha]) (r.one h1)
theorem GR.cells_size (r : GR α) (hr : r.fits) {O w v x} (h : r.v O w v x) : v.cells.size = r.sz := by
  obtain ⟨cs, h1, _, h3⟩ := r.cells hr h
  rw [h3]; simp [r.len h1]
theorem GR.cells_one (r : GR α) (hr : r.fits) {O w v x} (h : r.v O w v x) : ∀ c ∈ v.cells.toList, c.oneCell' = true := by
  obtain ⟨cs, h1, _, h3⟩ := r.cells hr h
  rw [h3]; simpa using r.one h1

/-- what is told by its cells alone -/
def rC (agg : Bool) (sz : Nat) (cells : α → List Value) (hl : ∀ x, (cells x).length = sz) (ho : ∀ x, ∀ c ∈ cells x, c.oneCell' = true) : GR α where
  agg := agg
  sz := sz
  rel := fun _ _ cs x => cs = cells x
  len := fun h => by rw [h]; exact hl _
  one := fun h => by rw [h]; exact ho _
  mono := fun _ h => h
def str (l : List UInt8) : ByteArray := ⟨l.toArray⟩
def bs (s : ByteArray) : List UInt8 := s.data.toList
@[simp] theorem bs_str (l : List UInt8) : bs (str l) = l := by simp [bs, str]
@[simp] theorem str_bs (s : ByteArray) : str (bs s) = s := by simp [bs, str]
theorem str_size (l : List UInt8) : (str l).size = l.length := rfl
theorem str_append (a b : List UInt8) : str a ++ str b = str (a ++ b) := by
  apply ByteArray.ext; simp [str]
theorem str_inj {a b : List UInt8} : str a = str b ↔ a = b := ⟨fun h => by have := congrArg bs h; simpa using this, fun h => by rw [h]⟩
abbrev Bytes := List UInt8
def rInt (k : IntKind) : GR Int := rC false 1 (fun x => [.int k x]) (fun _ => rfl) (fun _ => by simp [Value.oneCell'])
def rBool : GR Bool := rC false 1 (fun x => [.bool x]) (fun _ => rfl) (fun _ => by simp [Value.oneCell'])
def rStr : GR Bytes := rC false 1 (fun x => [.string (str x)]) (fun _ => rfl) (fun _ => by simp [Value.oneCell'])
theorem rInt_v {k : IntKind} {O w v x} : (rInt k).v O w v x ↔ v = .int k x := ⟨fun ⟨_, h1, h2⟩ => by rw [h2, h1]; rfl, fun h => ⟨_, rfl, h⟩⟩
theorem rBool_v {O w v x} : rBool.v O w v x ↔ v = .bool x := ⟨fun ⟨_, h1, h2⟩ => by rw [h2, h1]; rfl, fun h => ⟨_, rfl, h⟩⟩
theorem rStr_v {O w v x} : rStr.v O w v x ↔ v = .string (str x) := ⟨fun ⟨_, h1, h2⟩ => by rw [h2, h1]; rfl, fun h => ⟨_, rfl, h⟩⟩
theorem rC_v {agg : Bool} {sz : Nat} {cells : α → List Value} {hl ho} {O w v x} : (rC agg sz cells hl ho).v O w v x ↔ v = packV agg (cells x) := ⟨fun ⟨_, h1, h2⟩ => by rw [h2, h1]; rfl, fun h => ⟨_, rfl, h⟩⟩

/-! structs -/
def rNil : GR γ where
  agg := true
  sz := 0
  rel := fun _ _ cs _ => cs = []
  len := fun h => by rw [h]; rfl
  one := fun h => by rw [h]; simp
  mono := fun _ h => h
def rCons (r : GR α) (p : γ → α) (s : GR γ) : GR γ where
  agg := true
  sz := r.sz + s.sz
  rel := fun O w cs x => ∃ c1 c2, cs = c1 ++ c2 ∧ r.rel O w c1 (p x) ∧ s.rel O w c2 x
  len := fun ⟨c1, c2, h, h1, h2⟩ => by rw [h, List.length_append, r.len h1, s.len h2]
  one := fun ⟨c1, c2, h, h1, h2⟩ c hc => by
    rw [h, List.mem_append] at hc
    exact hc.elim (r.one h1 c) (s.one h2 c)
  mono := fun hk ⟨c1, c2, h, h1, h2⟩ => ⟨c1, c2, h, r.mono hk h1, s.mono hk h2⟩

/-! rows of elements -/
def RelL (r : GR α) (O : Tags) (w : World) : List Value → List α → Prop
  | [], [] => True
  | v :: vs, x :: xs => r.v O w v x ∧ RelL r O w vs xs
  | _, _ => False
theorem RelL.mono {r : GR α} {O w O' w'} (hk : Keep 0 O w O' w') : ∀ {vs : List Value} {xs : List α}, RelL r O w vs xs → RelL r O' w' vs xs
  | [], [], _ => trivial
  | v :: vs, x :: xs, h => ⟨r.v_mono h.1 hk, RelL.mono hk h.2⟩
  | [], _ :: _, h => h.elim
  | _ :: _, [], h => h.elim
theorem RelL.len {r : GR α} {O w} : ∀ {vs : List Value} {xs : List α}, RelL r O w vs xs → vs.length = xs.length
  | [], [], _ => rfl
  | v :: vs, x :: xs, h => by simp [RelL.len h.2]
  | [], _ :: _, h => h.elim
  | _ :: _, [], h => h.elim
theorem RelL.get {r : GR α} {O w} : ∀ {vs : List Value} {xs : List α}, RelL r O w vs xs → ∀ (i : Nat) (x : α), xs[i]? = some x → ∃ v, vs[i]? = some v ∧ r.v O w v x
  | [], [], _, i, x, hx => by simp at hx
  | v :: vs, y :: xs, h, 0, x, hx => by simp at hx; subst hx; exact ⟨v, rfl, h.1⟩
  | v :: vs, y :: xs, h, i + 1, x, hx => by simp at hx; simpa using RelL.get h.2 i x hx
  | [], _ :: _, h, _, _, _ => h.elim
  | _ :: _, [], h, _, _, _ => h.elim
theorem RelL.append {r : GR α} {O w} : ∀ {vs us : List Value} {xs ys : List α}, RelL r O w vs xs → RelL r O w us ys → RelL r O w (vs ++ us) (xs ++ ys)
  | [], _, [], _, _, k => k
  | v :: vs, _, x :: xs, _, h, k => ⟨h.1, RelL.append h.2 k⟩
  | [], _, _ :: _, _, h, _ => h.elim
  | _ :: _, _, [], _, h, _ => h.elim
theorem RelL.take {r : GR α} {O w} : ∀ {vs : List Value} {xs : List α}, RelL r O w vs xs → ∀ n, RelL r O w (vs.take n) (xs.take n)
  | [], [], _, n => by simp [RelL]
  | v :: vs, x :: xs, h, 0 => trivial
  | v :: vs, x :: xs, h, n + 1 => ⟨h.1, RelL.take h.2 n⟩
  | [], _ :: _, h, _ => h.elim
  | _ :: _, [], h, _ => h.elim
theorem RelL.drop {r : GR α} {O w} : ∀ {vs : List Value} {xs : List α}, RelL r O w vs xs → ∀ n, RelL r O w (vs.drop n) (xs.drop n)
  | [], [], _, n => by simp [RelL]
  | v :: vs, x :: xs, h, 0 => h
  | v :: vs, x :: xs, h, n + 1 => by simpa using RelL.drop h.2 n
  | [], _ :: _, h, _ => h.elim
  | _ :: _, [], h, _ => h.elim
theorem RelL.set {r : GR α} {O w} : ∀ {vs : List Value} {xs : List α}, RelL r O w vs xs → ∀ n {v x}, r.v O w v x → RelL r O w (vs.set n v) (xs.set n x)
  | [], [], _, n, _, _, _ => by simp [RelL]
  | _ :: vs, _ :: xs, h, 0, _, _, k => ⟨k, h.2⟩
  | _ :: vs, _ :: xs, h, n + 1, _, _, k => ⟨h.1, RelL.set h.2 n k⟩
  | [], _ :: _, h, _, _, _, _ => h.elim
  | _ :: _, [], h, _, _, _, _ => h.elim
theorem RelL.replicate {r : GR α} {O w v x} (h : r.v O w v x) : ∀ n, RelL r O w (List.replicate n v) (List.replicate n x)
  | 0 => trivial
  | n + 1 => ⟨h, RelL.replicate h n⟩
theorem RelL.size {r : GR α} (hr : r.fits) {O w} : ∀ {vs : List Value} {xs : List α}, RelL r O w vs xs → ∀ v ∈ vs, v.cells.size = r.sz
  | [], [], _, v, hv => by cases hv
  | u :: vs, x :: xs, h, v, hv => by
    rcases List.mem_cons.1 hv with rfl | hv
    · exact r.cells_size hr h.1
    · exact RelL.size hr h.2 v hv
  | [], _ :: _, h, _, _ => h.elim
  | _ :: _, [], h, _, _ => h.elim
theorem RelL.one {r : GR α} (hr : r.fits) {O w} : ∀ {vs : List Value} {xs : List α}, RelL r O w vs xs → ∀ c ∈ flat vs, c.oneCell' = true
  | [], [], _, c, hc => by simp [flat] at hc
  | u :: vs, x :: xs, h, c, hc => by
    simp only [flat, List.flatMap_cons, List.mem_append] at hc
    rcases hc with hc | hc
    · exact r.cells_one hr h.1 c hc
    · exact RelL.one hr h.2 c hc
  | [], _ :: _, h, _, _ => h.elim
  | _ :: _, [], h, _, _ => h.elim
theorem RelL.closed {agg : Bool} {sz : Nat} {cells : α → List Value} {hl ho} {O w} : ∀ {vs : List Value} {xs : List α}, RelL (rC agg sz cells hl ho) O w vs xs ↔ vs = xs.map fun x => packV agg (cells x)
  | [], [] => by simp [RelL]
  | v :: vs, x :: xs => by simp [RelL, rC_v, RelL.closed (vs := vs) (xs := xs)]
  | [], _ :: _ => by simp [RelL]
  | _ :: _, [] => by simp [RelL]

/-! slices -/
theorem cell_keep {O O' : Tags} {w w' : World} (hk : Keep 0 O w O' w') {p : Addr} {v : Value} (hp : O p.block = 0) (h : w.cell? p = some v) : w'.cell? p = some v := by
  have hb : p.block < w.heap.size := by
    unfold World.cell? at h
    cases hh : w.heap[p.block]? with
    | none => simp [hh] at h
    | some o => exact (Array.getElem?_eq_some_iff.1 hh).1
  have := (hk.2 _ hb hp).2
  rw [World.cell?_of_block this]; exact h
def Foot (O : Tags) (w : World) (u : Value) (vs : List Value) : Prop := vs ≠ [] → ∀ g, u.ownBlock = some g → g < w.heap.size ∧ O g = 0
theorem Foot.keep {O O' : Tags} {w w' : World} (hk : Keep 0 O w O' w') {u : Value} {vs : List Value} (h : Foot O w u vs) : Foot O' w' u vs := fun hv g hg => by
  obtain ⟨h1, h2⟩ := h hv g hg
  exact ⟨Nat.lt_of_lt_of_le h1 hk.1, (hk.2 g h1 h2).1⟩
theorem slv_keep {O O' : Tags} {w w' : World} (hk : Keep 0 O w O' w') {E : Nat} {u : Value} {vs : List Value} (h : SlV w E u vs) (hf : Foot O w u vs) : SlV w' E u vs := by
  obtain ⟨a, cap, h1, h2, h3, h4⟩ := h
  refine ⟨a, cap, h1, h2, h3, ?_⟩
  rcases h4 with h4 | ⟨b, off, ha, hc⟩
  · exact .inl h4
  · by_cases hv : vs = []
    · exact .inl hv
    refine .inr ⟨b, off, ha, fun i x hx j hj => ?_⟩
    have := hc i x hx j hj
    have hlt : j < x.cells.size := by rw [h3 x (List.mem_of_getElem? hx)]; exact hj
    rw [Array.getElem?_eq_getElem hlt] at this ⊢
    exact cell_keep hk (hf hv b (by rw [h1, ha]; rfl)).2 this
def rSl (r : GR α) : GR (List α) where
  agg := false
  sz := 1
  rel := fun O w cs xs => ∃ u vs, cs = [u] ∧ SlV w r.sz u vs ∧ RelL r O w vs xs ∧ Foot O w u vs
  len := fun ⟨u, vs, h, _⟩ => by rw [h]; rfl
  one := fun ⟨u, vs, h, ⟨a, cap, h1, _⟩, _⟩ c hc => by
    rw [h] at hc; simp at hc; subst hc; rw [h1]; rfl
  mono := fun hk ⟨u, vs, h, h1, h2, h3⟩ => ⟨u, vs, h, slv_keep hk h1 h3, h2.mono hk, h3.keep hk⟩
theorem rSl_v {r : GR α} {O w u xs} : (rSl r).v O w u xs ↔ ∃ vs, SlV w r.sz u vs ∧ RelL r O w vs xs ∧ Foot O w u vs :=
  ⟨fun ⟨cs, ⟨u', vs, h, h1, h2, h3⟩, hu⟩ => by rw [h] at hu; simp [rSl, packV] at hu; subst hu; exact ⟨vs, h1, h2, h3⟩, fun ⟨vs, h1, h2, h3⟩ => ⟨[u], ⟨u, vs, rfl, h1, h2, h3⟩, rfl⟩⟩
/-- a slice that can be read now -/
def Rd (r : GR α) (O : Tags) (w : World) (u : Value) (xs : List α) : Prop := ∃ vs, SlV w r.sz u vs ∧ RelL r O w vs xs
theorem Rd.ext {r : GR α} {O w w' u xs} (h : Rd r O w u xs) (hE : Ext w w') : Rd r O w' u xs := by
  obtain ⟨vs, h1, h2⟩ := h; exact ⟨vs, h1.ext hE, h2.mono (Keep.ext hE)⟩
theorem rd_of {r : GR α} {O w u xs} (h : (rSl r).v O w u xs) : Rd r O w u xs := by
  obtain ⟨vs, h1, h2, _⟩ := rSl_v.1 h; exact ⟨vs, h1, h2⟩
theorem rSl_nil (r : GR α) (O : Tags) (w : World) (c : Nat) : (rSl r).v O w (.slice none 0 c) [] := rSl_v.2 ⟨[], ⟨none, c, rfl, by simp, by simp, .inl rfl⟩, trivial, fun h => absurd rfl h⟩

/-! slices of the call's own -/
/-- u has the elements xs; its row lies in a block of its own, one of B, of tag k. -/
def OwnL (k : Nat) (r : GR α) (T : Nat) (B : Nat → Prop) (O : Tags) (w : World) (u : Value) (xs : List α) : Prop :=
  ∃ vs, OwnS w 0 T r.sz u vs ∧ RelL r O w vs xs ∧ ∀ g, u.ownBlock = some g → O g = k ∧ B g
theorem OwnL.rd {k : Nat} {r : GR α} {T B O w u xs} (h : OwnL k r T B O w u xs) : Rd r O w u xs := by
  obtain ⟨vs, h1, h2, _⟩ := h; exact ⟨vs, h1.slv, h2⟩
theorem ownS_keep {w w' : World} {B T E : Nat} {u : Value} {vs : List Value} (h : OwnS w B T E u vs) (hb : ∀ g, u.ownBlock = some g → w'.heap[g]? = w.heap[g]?) : OwnS w' B T E u vs := by
  refine ⟨h.sz, h.row.1, ?_⟩
  rcases h.row.2 with h1 | ⟨b, cap, cur, h1, h2, h3, h4⟩
  · exact .inl h1
  · exact .inr ⟨b, cap, cur, h1, h2, by rw [hb b (by rw [h1]; rfl)]; exact h3, h4⟩
theorem OwnL.keep {k : Nat} {r : GR α} {T B O w O' w' u xs} (h : OwnL k r T B O w u xs) (h0 : Keep 0 O w O' w') (hk : Keep k O w O' w') : OwnL k r T B O' w' u xs := by
  obtain ⟨vs, h1, h2, h3⟩ := h
  exact ⟨vs, ownS_keep h1 fun g hg => (hk.2 g (h1.block_lt g hg) (h3 g hg).1).2, h2.mono h0, fun g hg => ⟨(hk.2 g (h1.block_lt g hg) (h3 g hg).1).1, (h3 g hg).2⟩⟩
theorem OwnL.ext {k : Nat} {r : GR α} {T B O w w' u xs} (h : OwnL k r T B O w u xs) (hE : Ext w w') : OwnL k r T B O w' u xs := h.keep (Keep.ext hE) (Keep.ext hE)
theorem OwnL.kx {j : Option Nat} {k : Nat} {r : GR α} {T B O w O' w' u xs} (h : OwnL k r T B O w u xs) (hx : KX j O w O' w') (h0 : some 0 ≠ j) (hk : some k ≠ j) : OwnL k r T B O' w' u xs := h.keep (hx.keep h0) (hx.keep hk)
theorem OwnL.nil (k : Nat) (r : GR α) (T : Nat) (B : Nat → Prop) (O : Tags) (w : World) : OwnL k r T B O w (.slice none 0 0) [] := ⟨[], OwnS.nil _ _ _ _, trivial, fun g hg => by cases hg⟩
theorem OwnL.tagged {k : Nat} {r : GR α} {T B O w u xs} (h : OwnL k r T B O w u xs) : ∀ g, u.ownBlock = some g → O g = k := by obtain ⟨_, _, _, h3⟩ := h; exact fun g hg => (h3 g hg).1
theorem OwnL.ge {k : Nat} {r : GR α} {T B O w u xs} (h : OwnL k r T B O w u xs) : ∀ g, u.ownBlock = some g → B g ∧ g < w.heap.size := by
  obtain ⟨vs, h1, _, h3⟩ := h; exact fun g hg => ⟨(h3 g hg).2, h1.block_lt g hg⟩
/-- what was the call's own stays as it is from now on -/
theorem OwnL.freeze {k : Nat} {r : GR α} {T B O w u xs} (h : OwnL k r T B O w u xs) (hk : k ≠ 0) : (rSl r).v (tag O u.ownBlock 0) w u xs := by
  have ht := h.tagged
  obtain ⟨vs, h1, h2, h3⟩ := h
  exact rSl_v.2 ⟨vs, h1.slv, h2.mono ((KX.free ht).keep (by simpa using hk.symm)), fun _ g hg => ⟨h1.block_lt g hg, by rw [hg]; exact tag_same _ _ _⟩⟩
/-- as an argument that is read alone -/
theorem OwnL.lend {k : Nat} {r : GR α} {T B O w u xs} (h : OwnL k r T B O w u xs) : (rSl r).v (fun _ => 0) w u xs := by
  obtain ⟨vs, h1, h2, h3⟩ := h
  exact rSl_v.2 ⟨vs, h1.slv, h2.mono ⟨Nat.le_refl _, fun _ _ _ => ⟨rfl, rfl⟩⟩, fun _ g hg => ⟨h1.block_lt g hg, rfl⟩⟩
theorem GR.lend (r : GR α) {O w v x} (h : r.v O w v x) : r.v (fun _ => 0) w v x := r.v_mono h ⟨Nat.le_refl _, fun _ _ _ => ⟨rfl, rfl⟩⟩
theorem okO_zero (w : World) : OkO (fun _ => 0) w := fun _ _ => rfl
/-- what a call leaves that nobody else has -/
def OwnR (r : GR α) (T B : Nat) (O : Tags) (w : World) (u : Value) (xs : List α) : Prop :=
  ∃ vs, OwnS w B T r.sz u vs ∧ RelL r (tag O u.ownBlock 1) w vs xs
theorem OwnR.ext {r : GR α} {T B O w w' u xs} (h : OwnR r T B O w u xs) (hE : Ext w w') : OwnR r T B O w' u xs := by
  obtain ⟨vs, h1, h2⟩ := h; exact ⟨vs, h1.ext hE, h2.mono (Keep.ext hE)⟩
theorem OwnR.rd {r : GR α} {T B O w u xs} (h : OwnR r T B O w u xs) : Rd r (tag O u.ownBlock 1) w u xs := by
  obtain ⟨vs, h1, h2⟩ := h; exact ⟨vs, h1.slv, h2⟩
theorem OwnR.rd' {r : GR α} {T B O w u xs} (h : OwnR r T B O w u xs) : Rd r O w u xs := by
  obtain ⟨vs, h1, h2⟩ := h
  refine ⟨vs, h1.slv, h2.mono ⟨Nat.le_refl _, fun b _ hb => ⟨?_, rfl⟩⟩⟩
  by_cases hg : u.ownBlock = some b
  · rw [hg, tag_same] at hb; cases hb
  · rw [tag_ne hg] at hb; exact hb
theorem OwnR.ge {r : GR α} {T B O w u xs} (h : OwnR r T B O w u xs) : ∀ g, u.ownBlock = some g → B ≤ g ∧ g < w.heap.size := by
  obtain ⟨vs, h1, h2⟩ := h; exact fun g hg => ⟨h1.block_ge g hg, h1.block_lt g hg⟩
theorem OwnR.own {r : GR α} {T B O w u xs} (h : OwnR r T B O w u xs) (k : Nat) {B' : Nat → Prop} (hk : k ≠ 0) (hB : ∀ g, B ≤ g → B' g) : OwnL k r T B' (tag O u.ownBlock k) w u xs := by
  have hge := h.ge
  obtain ⟨vs, h1, h2⟩ := h
  refine ⟨vs, h1.mono (Nat.zero_le _), h2.mono ⟨Nat.le_refl _, fun b _ hb => ⟨?_, rfl⟩⟩, fun g hg => ⟨by rw [hg]; exact tag_same _ _ _, hB g (hge g hg).1⟩⟩
  by_cases hg : u.ownBlock = some b
  · rw [hg, tag_same] at hb; cases hb
  · rw [tag_ne hg] at hb ⊢; exact hb
theorem OwnR.val {r : GR α} {T B O w u xs} (h : OwnR r T B O w u xs) (hO : ∀ g, u.ownBlock = some g → O g = 0) : (rSl r).v O w u xs := by
  obtain ⟨vs, h1, h2⟩ := h
  refine rSl_v.2 ⟨vs, h1.slv, h2.mono ⟨Nat.le_refl _, fun b _ hb => ⟨?_, rfl⟩⟩, fun _ g hg => ⟨h1.block_lt g hg, hO g hg⟩⟩
  by_cases hg : u.ownBlock = some b
  · rw [hg, tag_same] at hb; cases hb
  · rw [tag_ne hg] at hb; exact hb
theorem _root_.Go.Eng.OwnS.rebase {w : World} {B B' T E : Nat} {u : Value} {vs : List Value} (h : OwnS w B T E u vs) (hb : ∀ g, u.ownBlock = some g → B' ≤ g) : OwnS w B' T E u vs := by
  refine ⟨h.sz, h.row.1, ?_⟩
  rcases h.row.2 with h1 | ⟨b, cap, cur, h1, h2, h3⟩
  · exact .inl h1
  · exact .inr ⟨b, cap, cur, h1, hb b (by rw [h1]; rfl), h3⟩
/-- the blocks that a call makes -/
def Fr (w0 : World) : Nat → Prop := fun b => w0.heap.size ≤ b
/-- .. and the row of a slice that it was handed -/
def FrV (w0 : World) (u : Value) : Nat → Prop := fun b => w0.heap.size ≤ b ∨ u.ownBlock = some b
/-- .. and the variable that it was handed -/
def FrB (w0 : World) (c : Nat) : Nat → Prop := fun b => w0.heap.size ≤ b ∨ b = c
theorem OwnL.res {k : Nat} {r : GR α} {T O O0 w0 w u xs} (h : OwnL k r T (Fr w0) O w u xs) (hk : k ≠ 0) (h0 : ∀ b, b < w.heap.size → O b = 0 → O0 b = 0) : OwnR r T w0.heap.size O0 w u xs := by
  obtain ⟨vs, h1, h2, h3⟩ := h
  refine ⟨vs, h1.rebase fun g hg => (h3 g hg).2, h2.mono ⟨Nat.le_refl _, fun b hb ho => ⟨?_, rfl⟩⟩⟩
  rw [tag_ne (fun hg => by rw [(h3 b hg).1] at ho; exact hk ho)]
  exact h0 b hb ho

/-! boxes -/
/-- block b holds the cells cs and is the call's own, of tag k -/
structure OwnB (k : Nat) (B : Nat → Prop) (O : Tags) (w : World) (b : Nat) (cs : Array Value) (T : TypeId) : Prop where
  own : Own w b cs T
  ge : B b
  tag : O b = k
theorem OwnB.keep {k : Nat} {B : Nat → Prop} {O O' : Tags} {w w' : World} {b : Nat} {cs : Array Value} {T : TypeId} (h : OwnB k B O w b cs T) (hk : Keep k O w O' w') : OwnB k B O' w' b cs T := by
  obtain ⟨h1, h2⟩ := hk.2 b h.own.lt h.tag
  obtain ⟨fr, h3, h4⟩ := h.own
  exact ⟨⟨fr, h2.trans h3, h4⟩, h.ge, h1⟩
theorem OwnB.ext {k : Nat} {B : Nat → Prop} {O : Tags} {w w' : World} {b : Nat} {cs : Array Value} {T : TypeId} (h : OwnB k B O w b cs T) (hE : Ext w w') : OwnB k B O w' b cs T := h.keep (Keep.ext hE)
theorem OwnB.kx {j : Option Nat} {k : Nat} {B : Nat → Prop} {O O' : Tags} {w w' : World} {b : Nat} {cs : Array Value} {T : TypeId} (h : OwnB k B O w b cs T) (hx : KX j O w O' w') (hk : some k ≠ j) : OwnB k B O' w' b cs T := h.keep (hx.keep hk)
/-- a pointer to a variable that stays as it is -/
def rBox (r : GR α) : GR α where
  agg := false
  sz := 1
  rel := fun O w cs x => ∃ b cs' T, cs = [.pointer (some ⟨b, 0, none⟩)] ∧ Own w b cs'.toArray T ∧ O b = 0 ∧ r.rel O w cs' x
  len := fun ⟨_, _, _, h, _⟩ => by rw [h]; rfl
  one := fun ⟨_, _, _, h, _⟩ c hc => by rw [h] at hc; simp at hc; subst hc; rfl
  mono := fun hk ⟨b, cs', T, h, ⟨fr, h1, h2⟩, h3, h4⟩ => by
    obtain ⟨h5, h6⟩ := hk.2 b (Array.getElem?_eq_some_iff.1 h1).1 h3
    exact ⟨b, cs', T, h, ⟨fr, h6.trans h1, h2⟩, h5, r.mono hk h4⟩
theorem OwnB.freeze {k : Nat} {B : Nat → Prop} {O : Tags} {w : World} {b : Nat} {cs : List Value} {T : TypeId} (h : OwnB k B O w b cs.toArray T) (hk : k ≠ 0) {r : GR α} {x : α} (hr : r.rel O w cs x) : (rBox r).v (Go.Lift.tag O (some b) 0) w (.pointer (some ⟨b, 0, none⟩)) x :=
  ⟨_, ⟨b, cs, T, rfl, h.own, tag_same _ _ _, r.mono ((KX.free (o := some b) (k := k) fun g hg => by cases hg; exact h.tag).keep (by simpa using hk.symm)) hr⟩, rfl⟩
theorem OwnB.tagged {k : Nat} {B : Nat → Prop} {O : Tags} {w : World} {b : Nat} {cs : Array Value} {T : TypeId} (h : OwnB k B O w b cs T) : ∀ g, some b = some g → O g = k := fun g hg => by cases hg; exact h.tag
theorem OwnB.ge' {k : Nat} {B : Nat → Prop} {O : Tags} {w : World} {b : Nat} {cs : Array Value} {T : TypeId} (h : OwnB k B O w b cs T) : ∀ g, some b = some g → B g := fun g hg => by cases hg; exact h.ge
/-! ## A call under way: what was there at its beginning, but the blocks of A, is as it was. -/
structure Base (A : Nat → Prop) (O : Tags) (w0 : World) (Oc : Tags) (w : World) : Prop where
  os : w.os = w0.os
  tape : w.tape = w0.tape
  output : w.output = w0.output
  size : w0.heap.size ≤ w.heap.size
  block : ∀ b, b < w0.heap.size → ¬ A b → w.heap[b]? = w0.heap[b]?
  ok : OkO Oc w
  old : ∀ b, b < w0.heap.size → ¬ A b → Oc b = O b
  zero : ∀ b, b < w.heap.size → Oc b = 0 → O b = 0
  new : ∀ b, w0.heap.size ≤ b → A b
theorem Base.start {O : Tags} {w0 : World} (h : OkO O w0) : Base (Fr w0) O w0 O w0 := ⟨rfl, rfl, rfl, Nat.le_refl _, fun _ _ _ => rfl, h, fun _ _ _ => rfl, fun _ _ h => h, fun _ h => h⟩
theorem Base.ext {O Oc : Tags} {w0 w : World} (h : Base (Fr w0) O w0 Oc w) : Ext w0 w := ⟨h.os, h.tape, h.output, h.size, fun b hb => h.block b hb (fun e => by unfold Fr at e; omega)⟩
variable {A : Nat → Prop}
theorem Base.step {O Oc : Tags} {w0 w w' : World} (h : Base A O w0 Oc w) (hE : Ext w w') (hO : OkO O w0) : Base A O w0 Oc w' :=
  ⟨hE.os.trans h.os, hE.tape.trans h.tape, hE.output.trans h.output, Nat.le_trans h.size hE.size, fun b hb hA => (hE.block b (Nat.lt_of_lt_of_le hb h.size)).trans (h.block b hb hA), h.ok.ext hE, h.old,
    fun b _ ho => by
      by_cases hb : b < w.heap.size
      · exact h.zero b hb ho
      · exact hO b (by have := h.size; omega), h.new⟩
theorem Base.tag {O Oc : Tags} {w0 w : World} (h : Base A O w0 Oc w) {o : Option Nat} {k : Nat} (hk : k ≠ 0) (ho : ∀ g, o = some g → A g ∧ g < w.heap.size) : Base A O w0 (tag Oc o k) w :=
  ⟨h.os, h.tape, h.output, h.size, h.block, h.ok.tag fun g hg => (ho g hg).2, fun b hb hA => by rw [tag_ne (fun e => hA (ho b e).1)]; exact h.old b hb hA,
    fun b hb hz => by
      by_cases e : o = some b
      · rw [e, tag_same] at hz; exact absurd hz hk
      · rw [tag_ne e] at hz; exact h.zero b hb hz, h.new⟩
/-- a tag goes -/
theorem Base.untag {O Oc : Tags} {w0 w : World} (h : Base A O w0 Oc w) (hO : OkO O w0) {o : Option Nat} (ho : ∀ g, o = some g → A g) (hz : ∀ g, o = some g → g < w0.heap.size → O g = 0) : Base A O w0 (Go.Lift.tag Oc o 0) w :=
  ⟨h.os, h.tape, h.output, h.size, h.block, fun b hb => by
    unfold Go.Lift.tag; split
    · rfl
    · exact h.ok b hb, fun b hb hA => by rw [tag_ne (fun e => hA (ho b e))]; exact h.old b hb hA,
    fun b hb hb0 => by
      by_cases e : o = some b
      · by_cases hlt : b < w0.heap.size
        · exact hz b e hlt
        · exact hO b (by omega)
      · rw [tag_ne e] at hb0; exact h.zero b hb hb0, h.new⟩
theorem Base.res {O Oc : Tags} {w0 w : World} (h : Base A O w0 Oc w) (r : GR α) {v x} (hr : r.v Oc w v x) : r.v O w v x := r.v_mono hr ⟨Nat.le_refl _, fun b hb ho => ⟨h.zero b hb ho, rfl⟩⟩
theorem Base.but {O Oc : Tags} {w0 w w' : World} {b : Nat} (h : Base A O w0 Oc w) (hb : A b) (hE : But b w w') (hO : OkO O w0) : Base A O w0 Oc w' :=
  ⟨hE.os.trans h.os, hE.tape.trans h.tape, hE.output.trans h.output, Nat.le_trans h.size hE.size, fun c hc hA => (hE.block c (Nat.lt_of_lt_of_le hc h.size) (fun e => hA (e ▸ hb))).trans (h.block c hc hA),
    fun c hc => h.ok c (Nat.le_trans hE.size hc), h.old, fun c _ ho => by
      by_cases hc : c < w.heap.size
      · exact h.zero c hc ho
      · exact hO c (by have := h.size; omega), h.new⟩
theorem KX.but {O : Tags} {w w' : World} {b k : Nat} (hE : But b w w') (hb : O b = k) : KX (some k) O w O w' :=
  ⟨hE.size, fun c hc hk => ⟨rfl, hE.block c hc (fun e => by subst e; exact hk (by rw [hb]))⟩⟩
end Go.Lift
