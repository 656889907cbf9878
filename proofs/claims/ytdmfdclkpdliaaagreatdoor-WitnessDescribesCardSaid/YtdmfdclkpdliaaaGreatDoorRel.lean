/- What it means that a state of the abstract machine stands for a world: values, blocks, memory; that it is kept by new blocks and stores. No condition. -/
import Derived.Test.YtdmfdclkpdliaaaGreatDoorAm
import Derived.Calls
import Derived.Orders
import Derived.Laws.Sem
import Derived.Laws.CopyRow
import Derived.Deep.MidRow
namespace Go.Proofs.YtdmfdclkpdliaaaGreatDoor
namespace Am
open Go

/- the map -/
theorem Tr.get_lf {α : Type} (k : Nat) : (Tr.lf : Tr α).get k = none := rfl
theorem Tr.get_putF {α : Type} : ∀ (f : Nat) (t : Tr α) (k : Nat) (x : Option α) (k' : Nat) (y : α),
    (Tr.putF f t k x).get k' = some y → (k' = k ∧ x = some y) ∨ (k' ≠ k ∧ t.get k' = some y) := by
  intro f
  induction f with
  | zero => intro t k x k' y h; simp [Tr.putF, Tr.get] at h
  | succ f ih =>
    intro t k x k' y h
    cases t with
    | lf =>
      simp only [Tr.putF] at h
      split at h
      · rename_i h0
        simp only [Tr.get] at h
        split at h
        · rename_i h1; exact .inl ⟨by omega, h⟩
        · split at h <;> simp at h
      · rename_i h0
        split at h
        · rename_i h1
          simp only [Tr.get] at h
          split at h
          · simp at h
          · rename_i h2
            split at h
            · rename_i h3
              rcases ih _ _ _ _ _ h with ⟨e, hx⟩ | ⟨e, hx⟩
              · exact .inl ⟨by omega, hx⟩
              · simp [Tr.get] at hx
            · simp at h
        · rename_i h1
          simp only [Tr.get] at h
          split at h
          · simp at h
          · rename_i h2
            split at h
            · simp at h
            · rename_i h3
              rcases ih _ _ _ _ _ h with ⟨e, hx⟩ | ⟨e, hx⟩
              · exact .inl ⟨by omega, hx⟩
              · simp [Tr.get] at hx
    | nd l v r =>
      simp only [Tr.putF] at h
      split at h
      · rename_i h0
        simp only [Tr.get] at h ⊢
        split at h
        · rename_i h1; exact .inl ⟨by omega, h⟩
        · rename_i h1
          refine .inr ⟨by omega, ?_⟩
          rw [if_neg h1]; exact h
      · rename_i h0
        split at h
        · rename_i h1
          simp only [Tr.get] at h ⊢
          split at h
          · rename_i h2
            refine .inr ⟨by omega, ?_⟩
            rw [if_pos h2]; exact h
          · rename_i h2
            split at h
            · rename_i h3
              rcases ih _ _ _ _ _ h with ⟨e, hx⟩ | ⟨e, hx⟩
              · exact .inl ⟨by omega, hx⟩
              · refine .inr ⟨by omega, ?_⟩
                rw [if_neg h2, if_pos h3]; exact hx
            · rename_i h3
              refine .inr ⟨by omega, ?_⟩
              rw [if_neg h2, if_neg h3]; exact h
        · rename_i h1
          simp only [Tr.get] at h ⊢
          split at h
          · rename_i h2
            refine .inr ⟨by omega, ?_⟩
            rw [if_pos h2]; exact h
          · rename_i h2
            split at h
            · rename_i h3
              refine .inr ⟨by omega, ?_⟩
              rw [if_neg h2, if_pos h3]; exact h
            · rename_i h3
              rcases ih _ _ _ _ _ h with ⟨e, hx⟩ | ⟨e, hx⟩
              · exact .inl ⟨by omega, hx⟩
              · refine .inr ⟨by omega, ?_⟩
                rw [if_neg h2, if_neg h3]; exact hx
theorem Tr.get_put {α : Type} {t : Tr α} {k : Nat} {x : Option α} {k' : Nat} {y : α} (h : (t.put k x).get k' = some y) : (k' = k ∧ x = some y) ∨ (k' ≠ k ∧ t.get k' = some y) :=
  Tr.get_putF _ _ _ _ _ _ h
theorem Heap.get_put {h : Heap} {b : Nat} {x : Option Blk} {b' : Nat} {y : Blk} (e : (h.put b x).get b' = some y) : (b' = b ∧ x = some y) ∨ (b' ≠ b ∧ h.get b' = some y) := by
  unfold Heap.put at e
  split at e
  · rename_i h0
    unfold Heap.get at e ⊢
    simp only [] at e
    split at e
    · rename_i h1
      rw [if_pos h1]
      split at e
      · rename_i h2; exact .inl ⟨h2, e⟩
      · rename_i h2; exact .inr ⟨h2, e⟩
    · rename_i h1
      rw [if_neg h1]
      exact .inr ⟨by omega, e⟩
  · rename_i h0
    unfold Heap.get at e ⊢
    simp only [] at e
    split at e
    · rename_i h1
      refine .inr ⟨by omega, ?_⟩
      rw [if_pos h1]; exact e
    · rename_i h1
      rcases Tr.get_put e with ⟨e1, e2⟩ | ⟨e1, e2⟩
      · exact .inl ⟨by omega, e2⟩
      · refine .inr ⟨by omega, ?_⟩
        rw [if_neg h1]; exact e2

/- values -/
abbrev Phi := Nat → Option (Nat × Nat)
def Phi.le (φ φ' : Phi) : Prop := ∀ b x, φ b = some x → φ' b = some x

mutual
inductive VR (φ : Phi) : AV → Value → Prop
  | bool (b) : VR φ (.bool b) (.bool b)
  | int (k n) : VR φ (.int k n) (.int k n)
  | str (s : List UInt8) : VR φ (.str s) (.string ⟨⟨s⟩⟩)
  | ptr {b o B z} (h : φ b = some (B, z)) : VR φ (.ptr b o) (.pointer (some ⟨B, o, none⟩))
  | loc {t g o B z} (h : φ g = some (B, z)) : VR φ (.loc t g o) (.pointer (some ⟨B, o, none⟩))
  | nilptr : VR φ .nilptr (.pointer none)
  | slice {b o len cap ex sz B z c} (h : φ b = some (B, z)) (h1 : len ≤ cap) (h2 : cap ≤ c) (h3 : ex = 2 → c = cap) (h4 : o + c * sz ≤ z) : VR φ (.slice b o len cap ex sz) (.slice (some ⟨B, o, none⟩) len c)
  | nilslice : VR φ .nilslice (.slice none 0 0)
  | map {b B z} (h : φ b = some (B, z)) : VR φ (.map b) (.map (some B))
  | nilmap : VR φ .nilmap (.map none)
  | func {f a b a' b'} (ha : VRs φ a a') (hb : VRs φ b b') : VR φ (.func f a b) (.func (.func f) a'.toArray b'.toArray)
  | nilfunc : VR φ .nilfunc .nilFunc
  | iface {t v v'} (h : VR φ v v') : VR φ (.iface t v) (.iface t v')
  | niliface : VR φ .niliface .nilIface
  | agg {cs cs'} (h : VRs φ cs cs') (h1 : cs.all AV.one = true) : VR φ (.agg cs) (.agg cs'.toArray)
  | tup {cs cs'} (h : VRs φ cs cs') : VR φ (.tup cs) (.tuple cs'.toArray)
inductive VRs (φ : Phi) : List AV → List Value → Prop
  | nil : VRs φ [] []
  | cons {a v as vs} (h : VR φ a v) (hs : VRs φ as vs) : VRs φ (a :: as) (v :: vs)
end

mutual
theorem VR.mono {φ φ' : Phi} (h : φ.le φ') : ∀ {a v}, VR φ a v → VR φ' a v
  | _, _, .bool b => .bool b
  | _, _, .int k n => .int k n
  | _, _, .str s => .str s
  | _, _, .ptr e => .ptr (h _ _ e)
  | _, _, .loc e => .loc (h _ _ e)
  | _, _, .nilptr => .nilptr
  | _, _, .slice e h1 h2 h3 h4 => .slice (h _ _ e) h1 h2 h3 h4
  | _, _, .nilslice => .nilslice
  | _, _, .map e => .map (h _ _ e)
  | _, _, .nilmap => .nilmap
  | _, _, .func ha hb => .func (VRs.mono h ha) (VRs.mono h hb)
  | _, _, .nilfunc => .nilfunc
  | _, _, .iface e => .iface (VR.mono h e)
  | _, _, .niliface => .niliface
  | _, _, .agg e h1 => .agg (VRs.mono h e) h1
  | _, _, .tup e => .tup (VRs.mono h e)
theorem VRs.mono {φ φ' : Phi} (h : φ.le φ') : ∀ {a v}, VRs φ a v → VRs φ' a v
  | _, _, .nil => .nil
  | _, _, .cons e es => .cons (VR.mono h e) (VRs.mono h es)
end

theorem VRs.length {φ : Phi} : ∀ {a : List AV} {v : List Value}, VRs φ a v → v.length = a.length
  | _, _, .nil => rfl
  | _, _, .cons _ es => by simp [es.length]
theorem VRs.append {φ : Phi} : ∀ {a : List AV} {v : List Value} {b : List AV} {u : List Value}, VRs φ a v → VRs φ b u → VRs φ (a ++ b) (v ++ u)
  | _, _, _, _, .nil, k => k
  | _, _, _, _, .cons e es, k => .cons e (es.append k)
theorem VRs.take {φ : Phi} : ∀ (n : Nat) {a : List AV} {v : List Value}, VRs φ a v → VRs φ (a.take n) (v.take n)
  | 0, _, _, _ => by simp; exact .nil
  | _ + 1, _, _, .nil => by simp; exact .nil
  | n + 1, _, _, .cons e es => by simp only [List.take_succ_cons]; exact .cons e (es.take n)
theorem VRs.drop {φ : Phi} : ∀ (n : Nat) {a : List AV} {v : List Value}, VRs φ a v → VRs φ (a.drop n) (v.drop n)
  | 0, _, _, h => by simpa using h
  | _ + 1, _, _, .nil => by simp; exact .nil
  | n + 1, _, _, .cons _ es => by simp only [List.drop_succ_cons]; exact es.drop n
theorem VRs.get {φ : Phi} : ∀ {a : List AV} {v : List Value} {i : Nat} {x : AV}, VRs φ a v → a[i]? = some x → ∃ u, v[i]? = some u ∧ VR φ x u
  | _, _, _, _, .nil, h => by simp at h
  | _, _, 0, _, .cons e _, h => by simp at h; subst h; exact ⟨_, by simp, e⟩
  | _, _, i + 1, _, .cons _ es, h => by simp at h; obtain ⟨u, h1, h2⟩ := es.get h; exact ⟨u, by simpa using h1, h2⟩
theorem VR.one {φ : Phi} {a : AV} {v : Value} (h : VR φ a v) (h1 : a.one = true) : v.oneCell' = true := by
  cases h <;> first | rfl | simp [AV.one] at h1
theorem VRs.one {φ : Phi} : ∀ {a : List AV} {v : List Value}, VRs φ a v → a.all AV.one = true → ∀ u ∈ v, u.oneCell' = true
  | _, _, .nil, _ => by simp
  | _, _, .cons e es, h1 => by
    simp only [List.all_cons, Bool.and_eq_true] at h1
    intro u hu
    rcases List.mem_cons.1 hu with rfl | hu
    · exact e.one h1.1
    · exact es.one h1.2 u hu
/- the cells of a value -/
theorem VR.cells {φ : Phi} {a : AV} {v : Value} (h : VR φ a v) : VRs φ a.cells v.cells.toList := by
  cases h with
  | agg e _ => simpa [AV.cells, Value.cells] using e
  | _ => exact .cons (by constructor <;> assumption) .nil

/- blocks -/
inductive ER (φ : Phi) : List (AV × AV) → List MapEntry → Prop
  | nil : ER φ [] []
  | cons {k v e es r} (hk : VR φ k e.key) (hv : VR φ v e.val) (h : ER φ es r) : ER φ ((k, v) :: es) (e :: r)
theorem ER.mono {φ φ' : Phi} (h : φ.le φ') : ∀ {a v}, ER φ a v → ER φ' a v
  | _, _, .nil => .nil
  | _, _, .cons a b e => .cons (a.mono h) (b.mono h) (e.mono h)

inductive BR (φ : Phi) (w : World) (b : Nat) : Blk → Prop
  | cells {cs e B z c t vs rest} (h : φ b = some (B, z)) (hw : w.heap[B]? = some (.cells c t (0, 0))) (hz : c.size = z) (hc : c.toList = vs ++ rest) (hv : VRs φ cs vs) (h1 : cs.all AV.one = true) : BR φ w b (.cells cs e)
  | fixed {cs e B z c t fr vs rest} (h : φ b = some (B, z)) (hw : w.heap[B]? = some (.cells c t fr)) (hz : c.size = z) (hc : c.toList = vs ++ rest) (hv : VRs φ cs vs) (h1 : cs.all AV.one = true) : BR φ w b (.fixed cs e)
  | map {es B z entries clock} (h : φ b = some (B, z)) (hw : w.heap[B]? = some (.map entries clock)) (he : ER φ es entries.toList) : BR φ w b (.map es)
theorem BR.at {φ : Phi} {w : World} {b : Nat} {x : Blk} (h : BR φ w b x) : ∃ B z, φ b = some (B, z) ∧ B < w.heap.size := by
  cases h with
  | cells h hw => exact ⟨_, _, h, (Array.getElem?_eq_some_iff.1 hw).1⟩
  | fixed h hw => exact ⟨_, _, h, (Array.getElem?_eq_some_iff.1 hw).1⟩
  | map h hw => exact ⟨_, _, h, (Array.getElem?_eq_some_iff.1 hw).1⟩
/- a block is what it was where its cells are -/
theorem BR.keep {φ φ' : Phi} {w w' : World} {b : Nat} {x : Blk} (h : BR φ w b x) (hφ : φ.le φ') (hw : ∀ B z, φ b = some (B, z) → w'.heap[B]? = w.heap[B]?) : BR φ' w' b x := by
  cases h with
  | cells h hw' hz hc hv h1 => exact .cells (hφ _ _ h) ((hw _ _ h).trans hw') hz hc (hv.mono hφ) h1
  | fixed h hw' hz hc hv h1 => exact .fixed (hφ _ _ h) ((hw _ _ h).trans hw') hz hc (hv.mono hφ) h1
  | map h hw' he => exact .map (hφ _ _ h) ((hw _ _ h).trans hw') (he.mono hφ)

/- memory: the blocks and the boxes that the state holds lie in the world, each in a block of its own -/
def St.hl (s : St) (b : Nat) : Prop := ∃ x, s.h.get b = some x
def St.ll (s : St) (b : Nat) : Prop := ∃ t cs, s.locs.get t = some (b, cs)

structure Mem (φ : Phi) (s : St) (w : World) : Prop where
  heap : ∀ b x, s.h.get b = some x → b < s.n ∧ BR φ w b x
  locs : ∀ t g cs, s.locs.get t = some (g, cs) → g < s.n ∧ s.h.get g = none ∧ BR φ w g (.cells cs 0)
  uniq : ∀ t t' g cs cs', s.locs.get t = some (g, cs) → s.locs.get t' = some (g, cs') → t = t'
  inj : ∀ b b' B z z', s.hl b ∨ s.ll b → s.hl b' ∨ s.ll b' → φ b = some (B, z) → φ b' = some (B, z') → b = b'

/- from one state and world to the next: names are only added, in [s.n, s'.n); what the state does not hold is not touched -/
structure Mv (φ : Phi) (s : St) (w : World) (φ' : Phi) (s' : St) (w' : World) : Prop where
  ext : φ.le φ'
  new : ∀ b, ¬(s.n ≤ b ∧ b < s'.n) → φ' b = φ b
  n : s.n ≤ s'.n
  lo : s'.lo ≤ s.lo
  os : w'.os = w.os
  tape : w'.tape = w.tape
  output : w'.output = w.output
  size : w.heap.size ≤ w'.heap.size
  fr : ∀ B, B < w.heap.size → (∀ b z, (s.hl b ∧ s'.lo ≤ b) ∨ s.ll b → φ b ≠ some (B, z)) → w'.heap[B]? = w.heap[B]?
  ownH : ∀ b B z, s'.hl b → φ' b = some (B, z) → w.heap.size ≤ B ∨ (s.hl b ∧ φ b = some (B, z)) ∨ ∃ b0 z0, s.hl b0 ∧ s'.lo ≤ b0 ∧ φ b0 = some (B, z0)
  ownL : ∀ b B z, s'.ll b → φ' b = some (B, z) → w.heap.size ≤ B ∨ (s.ll b ∧ φ b = some (B, z))

theorem Phi.le_refl (φ : Phi) : φ.le φ := fun _ _ h => h
theorem Phi.le_trans {a b c : Phi} (h : a.le b) (k : b.le c) : a.le c := fun _ _ e => k _ _ (h _ _ e)

/- the world's heap alone counts -/
theorem Mem.heaped {φ : Phi} {s : St} {w w' : World} (m : Mem φ s w) (h : w'.heap = w.heap) : Mem φ s w' := {
  heap := fun b x e => ⟨(m.heap b x e).1, (m.heap b x e).2.keep (Phi.le_refl φ) (fun B _ _ => by rw [h])⟩
  locs := fun t g cs e => ⟨(m.locs t g cs e).1, (m.locs t g cs e).2.1, (m.locs t g cs e).2.2.keep (Phi.le_refl φ) (fun B _ _ => by rw [h])⟩
  uniq := m.uniq
  inj := m.inj }

/- where neither memory nor names turn -/
theorem Mv.same {φ : Phi} {s s' : St} {w w' : World} (hn : s'.n = s.n) (hlo : s'.lo = s.lo) (hh : s'.h = s.h) (hl : s'.locs = s.locs) (h1 : w'.os = w.os) (h2 : w'.tape = w.tape) (h3 : w'.output = w.output) (h4 : w'.heap = w.heap) : Mv φ s w φ s' w' := {
  ext := Phi.le_refl φ
  new := fun _ _ => rfl
  n := by omega
  lo := by omega
  os := h1
  tape := h2
  output := h3
  size := by rw [h4]; exact Nat.le_refl _
  fr := fun _ _ _ => by rw [h4]
  ownH := fun b B z h e => .inr (.inl ⟨by unfold St.hl at *; rw [hh] at h; exact h, e⟩)
  ownL := fun b B z h e => .inr ⟨by unfold St.ll at *; rw [hl] at h; exact h, e⟩ }
theorem Mv.refl (φ : Phi) (s : St) (w : World) : Mv φ s w φ s w := Mv.same rfl rfl rfl rfl rfl rfl rfl rfl

theorem Mv.trans {φ φ' φ'' : Phi} {s s' s'' : St} {w w' w'' : World} (a : Mv φ s w φ' s' w') (b : Mv φ' s' w' φ'' s'' w'') : Mv φ s w φ'' s'' w'' := {
  ext := Phi.le_trans a.ext b.ext
  new := fun x h => by
    have := a.n; have := b.n
    rw [b.new x (by omega), a.new x (by omega)]
  n := Nat.le_trans a.n b.n
  lo := Nat.le_trans b.lo a.lo
  os := b.os.trans a.os
  tape := b.tape.trans a.tape
  output := b.output.trans a.output
  size := Nat.le_trans a.size b.size
  fr := fun B hB h => by
    have h1 : w'.heap[B]? = w.heap[B]? := a.fr B hB (fun x z hx => h x z (hx.imp (fun ⟨p, q⟩ => ⟨p, Nat.le_trans b.lo q⟩) id))
    rw [← h1]
    refine b.fr B (Nat.lt_of_lt_of_le hB a.size) (fun x z hx e => ?_)
    rcases hx with ⟨p, q⟩ | p
    · rcases a.ownH x B z p e with h2 | ⟨h2, h3⟩ | ⟨b0, z0, h2, h3, h4⟩
      · omega
      · exact h x z (.inl ⟨h2, q⟩) h3
      · exact h b0 z0 (.inl ⟨h2, Nat.le_trans b.lo h3⟩) h4
    · rcases a.ownL x B z p e with h2 | ⟨h2, h3⟩
      · omega
      · exact h x z (.inr h2) h3
  ownH := fun x B z h e => by
    rcases b.ownH x B z h e with h2 | ⟨h2, h3⟩ | ⟨b0, z0, h2, h3, h4⟩
    · exact .inl (Nat.le_trans a.size h2)
    · rcases a.ownH x B z h2 h3 with h4 | h4 | ⟨b0, z0, h4, h5, h6⟩
      · exact .inl h4
      · exact .inr (.inl h4)
      · exact .inr (.inr ⟨b0, z0, h4, Nat.le_trans b.lo h5, h6⟩)
    · rcases a.ownH b0 B z0 h2 h4 with h5 | ⟨h5, h6⟩ | ⟨b1, z1, h5, h6, h7⟩
      · exact .inl h5
      · exact .inr (.inr ⟨b0, z0, h5, h3, h6⟩)
      · exact .inr (.inr ⟨b1, z1, h5, Nat.le_trans b.lo h6, h7⟩)
  ownL := fun x B z h e => by
    rcases b.ownL x B z h e with h2 | ⟨h2, h3⟩
    · exact .inl (Nat.le_trans a.size h2)
    · exact a.ownL x B z h2 h3 }

/- a new name -/
def Phi.add (φ : Phi) (n : Nat) (x : Nat × Nat) : Phi := fun b => if b = n then some x else φ b
theorem Phi.le_add {φ : Phi} {n : Nat} {x : Nat × Nat} (h : φ n = none) : φ.le (φ.add n x) := fun b y e => by
  unfold Phi.add
  split
  · rename_i hb; subst hb; rw [h] at e; cases e
  · exact e
theorem Phi.add_self (φ : Phi) (n : Nat) (x : Nat × Nat) : φ.add n x n = some x := by simp [Phi.add]
theorem Phi.add_ne {φ : Phi} {n b : Nat} {x : Nat × Nat} (h : b ≠ n) : φ.add n x b = φ b := by simp [Phi.add, h]

/- the next world holds one block more -/
structure Grew (w w' : World) (o : Obj) : Prop where
  heap : w'.heap = w.heap.push o
  os : w'.os = w.os
  tape : w'.tape = w.tape
  output : w'.output = w.output
theorem Grew.old {w w' : World} {o : Obj} (g : Grew w w' o) (B : Nat) (h : B < w.heap.size) : w'.heap[B]? = w.heap[B]? := by
  rw [g.heap, Array.getElem?_push, if_neg (by omega)]
theorem Grew.new {w w' : World} {o : Obj} (g : Grew w w' o) : w'.heap[w.heap.size]? = some o := by
  rw [g.heap, Array.getElem?_push, if_pos rfl]
theorem Grew.size {w w' : World} {o : Obj} (g : Grew w w' o) : w'.heap.size = w.heap.size + 1 := by rw [g.heap, Array.size_push]

theorem Mem.old {φ φ' : Phi} {s : St} {w w' : World} (_ : Mem φ s w) (hφ : φ.le φ') (h : ∀ B, B < w.heap.size → w'.heap[B]? = w.heap[B]?) {b : Nat} {x : Blk} (e : BR φ w b x) : BR φ' w' b x := by
  refine e.keep hφ (fun B z hb => ?_)
  obtain ⟨B', z', h1, h2⟩ := e.at
  rw [h1] at hb; cases hb
  exact h B h2

/- a block is made -/
theorem Mem.block {φ : Phi} {s : St} {w w' : World} (m : Mem φ s w) (hf : φ s.n = none) {x : Blk} {o : Obj} {z : Nat} (g : Grew w w' o)
    (hx : BR (φ.add s.n (w.heap.size, z)) w' s.n x) :
    Mem (φ.add s.n (w.heap.size, z)) { s with n := s.n + 1, h := s.h.put s.n (some x) } w' ∧ Mv φ s w (φ.add s.n (w.heap.size, z)) { s with n := s.n + 1, h := s.h.put s.n (some x) } w' := by
  have hφ : φ.le (φ.add s.n (w.heap.size, z)) := Phi.le_add hf
  have live : ∀ b, (St.hl { s with n := s.n + 1, h := s.h.put s.n (some x) } b ∨ St.ll { s with n := s.n + 1, h := s.h.put s.n (some x) } b) → b = s.n ∨ (b ≠ s.n ∧ (s.hl b ∨ s.ll b)) := by
    rintro b (⟨y, e⟩ | ⟨t, cs, e⟩)
    · rcases Heap.get_put e with ⟨h1, _⟩ | ⟨_, h2⟩
      · exact .inl h1
      · have := (m.heap b y h2).1
        exact .inr ⟨by omega, .inl ⟨y, h2⟩⟩
    · have := (m.locs t b cs e).1
      exact .inr ⟨by omega, .inr ⟨t, cs, e⟩⟩
  have blk : ∀ b B z', (s.hl b ∨ s.ll b) → φ b = some (B, z') → B < w.heap.size := by
    rintro b B z' (⟨y, e⟩ | ⟨t, cs, e⟩) hb
    · obtain ⟨B', z2, h1, h2⟩ := (m.heap b y e).2.at
      rw [h1] at hb; cases hb; exact h2
    · obtain ⟨B', z2, h1, h2⟩ := (m.locs t b cs e).2.2.at
      rw [h1] at hb; cases hb; exact h2
  refine ⟨⟨fun b y e => ?_, fun t g' cs e => ?_, m.uniq, fun b b' B z1 z2 hb hb' e e' => ?_⟩, ⟨hφ, fun b hb => ?_, by simp, by simp, g.os, g.tape, g.output, by rw [g.size]; omega, fun B hB _ => g.old B hB, fun b B z1 hb e => ?_, fun b B z1 hb e => ?_⟩⟩
  · rcases Heap.get_put e with ⟨h1, h2⟩ | ⟨_, h2⟩
    · cases h2; subst h1; exact ⟨by simp, hx⟩
    · have h3 := m.heap b y h2
      exact ⟨by simp; omega, m.old hφ g.old h3.2⟩
  · have h3 := m.locs t g' cs e
    refine ⟨by simp; omega, ?_, m.old hφ g.old h3.2.2⟩
    cases hq : (s.h.put s.n (some x)).get g' with
    | none => rfl
    | some y =>
      rcases Heap.get_put hq with ⟨h1, _⟩ | ⟨_, h2⟩
      · omega
      · rw [h3.2.1] at h2; cases h2
  · rcases live b hb with rfl | ⟨h1, h2⟩ <;> rcases live b' hb' with rfl | ⟨h3, h4⟩
    · rfl
    · rw [Phi.add_self] at e; rw [Phi.add_ne h3] at e'
      cases e; have := blk _ _ _ h4 e'; omega
    · rw [Phi.add_self] at e'; rw [Phi.add_ne h1] at e
      cases e'; have := blk _ _ _ h2 e; omega
    · rw [Phi.add_ne h1] at e; rw [Phi.add_ne h3] at e'
      exact m.inj b b' B z1 z2 h2 h4 e e'
  · exact Phi.add_ne (by simp at hb; omega)
  · obtain ⟨y, e1⟩ := hb
    rcases Heap.get_put e1 with ⟨h1, _⟩ | ⟨_, h2⟩
    · subst h1; rw [Phi.add_self] at e; cases e; exact .inl (Nat.le_refl _)
    · have := (m.heap b y h2).1
      rw [Phi.add_ne (by omega)] at e
      exact .inr (.inl ⟨⟨y, h2⟩, e⟩)
  · obtain ⟨t, cs, e1⟩ := hb
    have := (m.locs t b cs e1).1
    rw [Phi.add_ne (by omega)] at e
    exact .inr ⟨⟨t, cs, e1⟩, e⟩

/- a box is made -/
theorem Mem.box {φ : Phi} {s : St} {w w' : World} (m : Mem φ s w) (hf : φ s.n = none) (d : Nat) {cs : List AV} {o : Obj} {z : Nat} (g : Grew w w' o)
    (hx : BR (φ.add s.n (w.heap.size, z)) w' s.n (.cells cs 0)) :
    Mem (φ.add s.n (w.heap.size, z)) { s with n := s.n + 1, locs := s.locs.put d (some (s.n, cs)) } w' ∧ Mv φ s w (φ.add s.n (w.heap.size, z)) { s with n := s.n + 1, locs := s.locs.put d (some (s.n, cs)) } w' := by
  have hφ : φ.le (φ.add s.n (w.heap.size, z)) := Phi.le_add hf
  have live : ∀ b, (St.hl { s with n := s.n + 1, locs := s.locs.put d (some (s.n, cs)) } b ∨ St.ll { s with n := s.n + 1, locs := s.locs.put d (some (s.n, cs)) } b) → b = s.n ∨ (b ≠ s.n ∧ (s.hl b ∨ s.ll b)) := by
    rintro b (⟨y, e⟩ | ⟨t, cs, e⟩)
    · have := (m.heap b y e).1
      exact .inr ⟨by omega, .inl ⟨y, e⟩⟩
    · rcases Tr.get_put e with ⟨_, h1⟩ | ⟨_, h2⟩
      · cases h1; exact .inl rfl
      · have := (m.locs t b cs h2).1
        exact .inr ⟨by omega, .inr ⟨t, cs, h2⟩⟩
  have blk : ∀ b B z', (s.hl b ∨ s.ll b) → φ b = some (B, z') → B < w.heap.size := by
    rintro b B z' (⟨y, e⟩ | ⟨t, cs, e⟩) hb
    · obtain ⟨B', z2, h1, h2⟩ := (m.heap b y e).2.at
      rw [h1] at hb; cases hb; exact h2
    · obtain ⟨B', z2, h1, h2⟩ := (m.locs t b cs e).2.2.at
      rw [h1] at hb; cases hb; exact h2
  refine ⟨⟨fun b y e => ?_, fun t g' cs' e => ?_, fun t t' g' c1 c2 e e' => ?_, fun b b' B z1 z2 hb hb' e e' => ?_⟩, ⟨hφ, fun b hb => ?_, by simp, by simp, g.os, g.tape, g.output, by rw [g.size]; omega, fun B hB _ => g.old B hB, fun b B z1 hb e => ?_, fun b B z1 hb e => ?_⟩⟩
  · have h3 := m.heap b y e
    exact ⟨by simp; omega, m.old hφ g.old h3.2⟩
  · rcases Tr.get_put e with ⟨_, h1⟩ | ⟨_, h2⟩
    · cases h1
      refine ⟨by simp, ?_, hx⟩
      cases hq : s.h.get s.n with
      | none => rfl
      | some y => have := (m.heap _ _ hq).1; omega
    · have h3 := m.locs t g' cs' h2
      exact ⟨by simp; omega, h3.2.1, m.old hφ g.old h3.2.2⟩
  · rcases Tr.get_put e with ⟨h0, h1⟩ | ⟨h0, h2⟩ <;> rcases Tr.get_put e' with ⟨h0', h1'⟩ | ⟨h0', h2'⟩
    · omega
    · cases h1; have := (m.locs t' _ _ h2').1; omega
    · cases h1'; have := (m.locs t _ _ h2).1; omega
    · exact m.uniq t t' g' c1 c2 h2 h2'
  · rcases live b hb with rfl | ⟨h1, h2⟩ <;> rcases live b' hb' with rfl | ⟨h3, h4⟩
    · rfl
    · rw [Phi.add_self] at e; rw [Phi.add_ne h3] at e'
      cases e; have := blk _ _ _ h4 e'; omega
    · rw [Phi.add_self] at e'; rw [Phi.add_ne h1] at e
      cases e'; have := blk _ _ _ h2 e; omega
    · rw [Phi.add_ne h1] at e; rw [Phi.add_ne h3] at e'
      exact m.inj b b' B z1 z2 h2 h4 e e'
  · exact Phi.add_ne (by simp at hb; omega)
  · obtain ⟨y, e1⟩ := hb
    have := (m.heap b y e1).1
    rw [Phi.add_ne (by omega)] at e
    exact .inr (.inl ⟨⟨y, e1⟩, e⟩)
  · obtain ⟨t, cs', e1⟩ := hb
    rcases Tr.get_put e1 with ⟨_, h1⟩ | ⟨_, h2⟩
    · cases h1; rw [Phi.add_self] at e; cases e; exact .inl (Nat.le_refl _)
    · have := (m.locs t b cs' h2).1
      rw [Phi.add_ne (by omega)] at e
      exact .inr ⟨⟨t, cs', h2⟩, e⟩

/- the next world is as this one but for one block -/
structure But (w w' : World) (B : Nat) : Prop where
  heap : ∀ k, k ≠ B → w'.heap[k]? = w.heap[k]?
  size : w'.heap.size = w.heap.size
  os : w'.os = w.os
  tape : w'.tape = w.tape
  output : w'.output = w.output

/- a block of the heap is written -/
theorem Mem.write {φ : Phi} {s : St} {w w' : World} (m : Mem φ s w) {b0 B0 z0 : Nat} {x' : Blk} (hl : s.hl b0) (hb : φ b0 = some (B0, z0)) (g : But w w' B0) (hx : BR φ w' b0 x') :
    Mem φ { s with lo := min s.lo b0, h := s.h.put b0 (some x') } w' ∧ Mv φ s w φ { s with lo := min s.lo b0, h := s.h.put b0 (some x') } w' := by
  have live : ∀ b, (St.hl { s with lo := min s.lo b0, h := s.h.put b0 (some x') } b) → s.hl b := by
    rintro b ⟨y, e⟩
    rcases Heap.get_put e with ⟨h1, _⟩ | ⟨_, h2⟩
    · subst h1; exact hl
    · exact ⟨y, h2⟩
  have other : ∀ b x, (s.hl b ∨ s.ll b) → b ≠ b0 → BR φ w b x → BR φ w' b x := fun b x h hne e =>
    e.keep (Phi.le_refl φ) (fun B z hB => g.heap B (fun hq => hne (m.inj b b0 B z z0 h (.inl hl) hB (hq ▸ hb))))
  have hn : b0 < s.n := by obtain ⟨y, e⟩ := hl; exact (m.heap b0 y e).1
  refine ⟨⟨fun b y e => ?_, fun t g' cs e => ?_, m.uniq, fun b b' B z1 z2 h h' e e' => m.inj b b' B z1 z2 (h.imp (live b) id) (h'.imp (live b') id) e e'⟩, ⟨Phi.le_refl φ, fun _ _ => rfl, Nat.le_refl _, by simp; omega, g.os, g.tape, g.output, by rw [g.size]; exact Nat.le_refl _, fun B hB h => ?_, fun b B z1 h e => .inr (.inl ⟨live b h, e⟩), fun b B z1 h e => .inr ⟨h, e⟩⟩⟩
  · rcases Heap.get_put e with ⟨h1, h2⟩ | ⟨h1, h2⟩
    · cases h2; subst h1; exact ⟨hn, hx⟩
    · exact ⟨(m.heap b y h2).1, other b y (.inl ⟨y, h2⟩) h1 (m.heap b y h2).2⟩
  · have h3 := m.locs t g' cs e
    have hne : g' ≠ b0 := fun hq => by
      obtain ⟨y, hy⟩ := hl
      rw [← hq, h3.2.1] at hy; cases hy
    refine ⟨h3.1, ?_, other g' _ (.inr ⟨t, cs, e⟩) hne h3.2.2⟩
    cases hq : (s.h.put b0 (some x')).get g' with
    | none => rfl
    | some y =>
      rcases Heap.get_put hq with ⟨h1, _⟩ | ⟨_, h2⟩
      · exact absurd h1 hne
      · rw [h3.2.1] at h2; cases h2
  · exact g.heap B (fun hq => h b0 z0 (.inl ⟨hl, by simp; omega⟩) (hq ▸ hb))

/- a box is written -/
theorem Mem.boxWrite {φ : Phi} {s : St} {w w' : World} (m : Mem φ s w) {t0 b0 B0 z0 : Nat} {old cs' : List AV} (hl : s.locs.get t0 = some (b0, old)) (hb : φ b0 = some (B0, z0)) (g : But w w' B0) (hx : BR φ w' b0 (.cells cs' 0)) :
    Mem φ { s with locs := s.locs.put t0 (some (b0, cs')) } w' ∧ Mv φ s w φ { s with locs := s.locs.put t0 (some (b0, cs')) } w' := by
  have live : ∀ b, (St.ll { s with locs := s.locs.put t0 (some (b0, cs')) } b) → s.ll b := by
    rintro b ⟨t, cs, e⟩
    rcases Tr.get_put e with ⟨_, h1⟩ | ⟨_, h2⟩
    · cases h1; exact ⟨t0, old, hl⟩
    · exact ⟨t, cs, h2⟩
  have other : ∀ b x, (s.hl b ∨ s.ll b) → b ≠ b0 → BR φ w b x → BR φ w' b x := fun b x h hne e =>
    e.keep (Phi.le_refl φ) (fun B z hB => g.heap B (fun hq => hne (m.inj b b0 B z z0 h (.inr ⟨t0, old, hl⟩) hB (hq ▸ hb))))
  have h0 := m.locs t0 b0 old hl
  refine ⟨⟨fun b y e => ?_, fun t g' cs e => ?_, fun t t' g' c1 c2 e e' => ?_, fun b b' B z1 z2 h h' e e' => m.inj b b' B z1 z2 (h.imp id (live b)) (h'.imp id (live b')) e e'⟩, ⟨Phi.le_refl φ, fun _ _ => rfl, Nat.le_refl _, Nat.le_refl _, g.os, g.tape, g.output, by rw [g.size]; exact Nat.le_refl _, fun B hB h => ?_, fun b B z1 h e => .inr (.inl ⟨h, e⟩), fun b B z1 h e => .inr ⟨live b h, e⟩⟩⟩
  · have hne : b ≠ b0 := fun hq => by rw [hq, h0.2.1] at e; cases e
    exact ⟨(m.heap b y e).1, other b y (.inl ⟨y, e⟩) hne (m.heap b y e).2⟩
  · rcases Tr.get_put e with ⟨h1, h2⟩ | ⟨h1, h2⟩
    · cases h2; exact ⟨h0.1, h0.2.1, hx⟩
    · have h3 := m.locs t g' cs h2
      have hne : g' ≠ b0 := fun hq => h1 (m.uniq t t0 b0 cs old (hq ▸ h2) hl)
      exact ⟨h3.1, h3.2.1, other g' _ (.inr ⟨t, cs, h2⟩) hne h3.2.2⟩
  · rcases Tr.get_put e with ⟨h1, h2⟩ | ⟨h1, h2⟩ <;> rcases Tr.get_put e' with ⟨h1', h2'⟩ | ⟨h1', h2'⟩
    · omega
    · cases h2; exact absurd (m.uniq t' t0 b0 c2 old h2' hl) h1'
    · cases h2'; exact absurd (m.uniq t t0 b0 c1 old h2 hl) h1
    · exact m.uniq t t' g' c1 c2 h2 h2'
  · exact g.heap B (fun hq => h b0 z0 (.inr ⟨t0, old, hl⟩) (hq ▸ hb))

/- a block passes to a new name: what stood under the old one is no longer held -/
theorem Mem.renamed {φ : Phi} {s : St} {w w' : World} (m : Mem φ s w) {b0 B0 z0 : Nat} {x' : Blk} (hl : s.hl b0) (hb : φ b0 = some (B0, z0)) (hf : φ s.n = none) (g : But w w' B0)
    (hx : BR (φ.add s.n (B0, z0)) w' s.n x') :
    Mem (φ.add s.n (B0, z0)) { s with n := s.n + 1, lo := min s.lo b0, h := (s.h.put s.n (some x')).put b0 none } w' ∧ Mv φ s w (φ.add s.n (B0, z0)) { s with n := s.n + 1, lo := min s.lo b0, h := (s.h.put s.n (some x')).put b0 none } w' := by
  have hφ : φ.le (φ.add s.n (B0, z0)) := Phi.le_add hf
  have hn : b0 < s.n := by obtain ⟨y, e⟩ := hl; exact (m.heap b0 y e).1
  have get : ∀ b y, ((s.h.put s.n (some x')).put b0 none).get b = some y → (b = s.n ∧ y = x') ∨ (b ≠ s.n ∧ b ≠ b0 ∧ s.h.get b = some y) := by
    intro b y e
    rcases Heap.get_put e with ⟨_, h1⟩ | ⟨h1, h2⟩
    · cases h1
    · rcases Heap.get_put h2 with ⟨h3, h4⟩ | ⟨h3, h4⟩
      · cases h4; exact .inl ⟨h3, rfl⟩
      · exact .inr ⟨h3, h1, h4⟩
  have other : ∀ b x, (s.hl b ∨ s.ll b) → b ≠ b0 → BR φ w b x → BR (φ.add s.n (B0, z0)) w' b x := fun b x h hne e =>
    e.keep hφ (fun B z hB => g.heap B (fun hq => hne (m.inj b b0 B z z0 h (.inl hl) hB (hq ▸ hb))))
  have lne : ∀ t g' cs, s.locs.get t = some (g', cs) → g' ≠ b0 ∧ g' ≠ s.n := fun t g' cs e => by
    have h3 := m.locs t g' cs e
    refine ⟨fun hq => ?_, by omega⟩
    obtain ⟨y, hy⟩ := hl
    rw [← hq, h3.2.1] at hy; cases hy
  have live : ∀ b, (St.hl { s with n := s.n + 1, lo := min s.lo b0, h := (s.h.put s.n (some x')).put b0 none } b ∨ St.ll { s with n := s.n + 1, lo := min s.lo b0, h := (s.h.put s.n (some x')).put b0 none } b) → b = s.n ∨ (b ≠ s.n ∧ b ≠ b0 ∧ (s.hl b ∨ s.ll b)) := by
    rintro b (⟨y, e⟩ | ⟨t, cs, e⟩)
    · rcases get b y e with ⟨h1, _⟩ | ⟨h1, h2, h3⟩
      · exact .inl h1
      · exact .inr ⟨h1, h2, .inl ⟨y, h3⟩⟩
    · have := lne t b cs e
      exact .inr ⟨this.2, this.1, .inr ⟨t, cs, e⟩⟩
  refine ⟨⟨fun b y e => ?_, fun t g' cs e => ?_, m.uniq, fun b b' B z1 z2 h h' e e' => ?_⟩, ⟨hφ, fun b hb => ?_, by simp, by simp; omega, g.os, g.tape, g.output, by rw [g.size]; exact Nat.le_refl _, fun B hB h => ?_, fun b B z1 h e => ?_, fun b B z1 h e => ?_⟩⟩
  · rcases get b y e with ⟨h1, h2⟩ | ⟨h1, h2, h3⟩
    · subst h1; subst h2; exact ⟨by simp, hx⟩
    · have := m.heap b y h3
      exact ⟨by simp; omega, other b y (.inl ⟨y, h3⟩) h2 this.2⟩
  · have h3 := m.locs t g' cs e
    have h4 := lne t g' cs e
    refine ⟨by simp; omega, ?_, other g' _ (.inr ⟨t, cs, e⟩) h4.1 h3.2.2⟩
    cases hq : ((s.h.put s.n (some x')).put b0 none).get g' with
    | none => rfl
    | some y =>
      rcases get g' y hq with ⟨h1, _⟩ | ⟨_, _, h2⟩
      · exact absurd h1 h4.2
      · rw [h3.2.1] at h2; cases h2
  · rcases live b h with rfl | ⟨h1, h2, h3⟩ <;> rcases live b' h' with rfl | ⟨h4, h5, h6⟩
    · rfl
    · rw [Phi.add_self] at e; cases e; rw [Phi.add_ne h4] at e'
      exact absurd (m.inj b' b0 _ _ _ h6 (.inl hl) e' hb) h5
    · rw [Phi.add_self] at e'; cases e'; rw [Phi.add_ne h1] at e
      exact absurd (m.inj b b0 _ _ _ h3 (.inl hl) e hb) h2
    · rw [Phi.add_ne h1] at e; rw [Phi.add_ne h4] at e'
      exact m.inj b b' B z1 z2 h3 h6 e e'
  · exact Phi.add_ne (by simp at hb; omega)
  · exact g.heap B (fun hq => h b0 z0 (.inl ⟨hl, by simp; omega⟩) (hq ▸ hb))
  · obtain ⟨y, e1⟩ := h
    rcases get b y e1 with ⟨h1, _⟩ | ⟨h1, _, h3⟩
    · subst h1; rw [Phi.add_self] at e; cases e
      exact .inr (.inr ⟨b0, z0, hl, by simp; omega, hb⟩)
    · rw [Phi.add_ne h1] at e
      exact .inr (.inl ⟨⟨y, h3⟩, e⟩)
  · obtain ⟨t, cs, e1⟩ := h
    rw [Phi.add_ne (lne t b cs e1).2] at e
    exact .inr ⟨⟨t, cs, e1⟩, e⟩

end Am
end Go.Proofs.YtdmfdclkpdliaaaGreatDoor
