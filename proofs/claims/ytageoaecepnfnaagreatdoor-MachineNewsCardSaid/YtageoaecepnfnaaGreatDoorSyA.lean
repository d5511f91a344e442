/- A symbolic evaluator of the model's code, shown sound once for every program (part 1 of 9): what it computes of a function is what the function does. -/
import Derived.WalkKit
import Derived.Laws.CopyOwn
import Derived.Laws.AppendOwnNone
import Derived.Lib.AppendStr
import Derived.Lib.ConvBytes
namespace Go.Sy
open Go Go.RowKit

/-- The types of plain data: a struct is a 'cons' list of its fields. -/
inductive Ty where
  | int (k : IntKind) | bool | str | opq
  | arr (n : Nat) (t : Ty) | sl (t : Ty) | nil | cons (a b : Ty)
  deriving Inhabited

def kbeq : IntKind → IntKind → Bool
  | .i8, .i8 | .i16, .i16 | .i32, .i32 | .i64, .i64 | .u8, .u8 | .u16, .u16 | .u32, .u32 | .u64, .u64 => true
  | _, _ => false
theorem kbeq_eq {a b : IntKind} (h : kbeq a b = true) : a = b := by cases a <;> cases b <;> first | rfl | (simp [kbeq] at h)

def Ty.beq : Ty → Ty → Bool
  | .int k, .int j => kbeq k j
  | .bool, .bool | .str, .str | .opq, .opq | .nil, .nil => true
  | .arr n t, .arr m u => Nat.beq n m && Ty.beq t u
  | .sl t, .sl u => Ty.beq t u
  | .cons a b, .cons c d => Ty.beq a c && Ty.beq b d
  | _, _ => false
theorem Ty.beq_eq : ∀ {a b : Ty}, Ty.beq a b = true → a = b := by
  intro a
  induction a with
  | int k => intro b h; cases b <;> simp [Ty.beq] at h; rw [kbeq_eq h]
  | bool => intro b h; cases b <;> simp [Ty.beq] at h; rfl
  | str => intro b h; cases b <;> simp [Ty.beq] at h; rfl
  | opq => intro b h; cases b <;> simp [Ty.beq] at h; rfl
  | nil => intro b h; cases b <;> simp [Ty.beq] at h; rfl
  | arr n t ih => intro b h; cases b <;> simp [Ty.beq] at h; obtain ⟨rfl, h2⟩ := h; rw [ih h2]
  | sl t ih => intro b h; cases b <;> simp [Ty.beq] at h; rw [ih h]
  | cons a b iha ihb => intro c h; cases c <;> simp [Ty.beq] at h; rw [iha h.1, ihb h.2]

@[reducible] def IDen : IntKind → Type
  | .i64 => Int
  | .u64 => BitVec 64 | .u32 => BitVec 32 | .u16 => BitVec 16 | .u8 => BitVec 8
  | .i32 => BitVec 32 | .i16 => BitVec 16 | .i8 => BitVec 8
@[reducible] def Den : Ty → Type
  | .int k => IDen k
  | .bool => Bool
  | .str => List (BitVec 8)
  | .opq => Unit
  | .arr _ t => List (Den t)
  | .sl t => List (Den t)
  | .nil => Unit
  | .cons a b => Den a × Den b

def toI : (k : IntKind) → IDen k → Int
  | .i64, x => x
  | .u64, x => (x.toNat : Int) | .u32, x => (x.toNat : Int) | .u16, x => (x.toNat : Int) | .u8, x => (x.toNat : Int)
  | .i32, x => x.toInt | .i16, x => x.toInt | .i8, x => x.toInt
def ofI : (k : IntKind) → Int → IDen k
  | .i64, n => IntKind.i64.wrap n
  | .u64, n => BitVec.ofInt 64 n | .u32, n => BitVec.ofInt 32 n | .u16, n => BitVec.ofInt 16 n | .u8, n => BitVec.ofInt 8 n
  | .i32, n => BitVec.ofInt 32 n | .i16, n => BitVec.ofInt 16 n | .i8, n => BitVec.ofInt 8 n

theorem wrap_u (b : Nat) (n : Int) : ((BitVec.ofInt b n).toNat : Int) = n % 2 ^ b := by
  rw [BitVec.toNat_ofInt]
  have : (0 : Int) ≤ n % ((2 ^ b : Nat) : Int) := Int.emod_nonneg _ (by have := Nat.two_pow_pos b; omega)
  rw [Int.toNat_of_nonneg this]; push_cast; rfl
theorem toI_ofI (k : IntKind) (n : Int) : toI k (ofI k n) = k.wrap n := by
  cases k <;> simp only [toI, ofI, IntKind.wrap, IntKind.signed, IntKind.bits, wrap_u, BitVec.toInt_ofInt, Int.bmod] <;> simp <;> (try split) <;> (try split) <;> (try rfl) <;> (try omega)

def dflt : (τ : Ty) → Den τ
  | .int k => ofI k 0
  | .bool => false
  | .str => []
  | .opq => ()
  | .arr n t => List.replicate n (dflt t)
  | .sl _ => []
  | .nil => ()
  | .cons a b => (dflt a, dflt b)
def Ty.size : Ty → Nat
  | .arr n t => n * t.size
  | .nil => 0
  | .cons a b => a.size + b.size
  | _ => 1
def Ty.isAgg : Ty → Bool
  | .arr _ _ | .nil | .cons _ _ => true
  | _ => false

def bstr (l : List (BitVec 8)) : ByteArray := ⟨(l.map UInt8.ofBitVec).toArray⟩
def lstr (s : ByteArray) : List (BitVec 8) := s.data.toList.map UInt8.toBitVec
theorem bstr_lstr (s : ByteArray) : bstr (lstr s) = s := by
  cases s with | mk d => cases d with | mk l => simp [bstr, lstr, Function.comp_def]
theorem lstr_bstr (l : List (BitVec 8)) : lstr (bstr l) = l := by
  simp [bstr, lstr, Function.comp_def]
theorem bstr_size (l : List (BitVec 8)) : (bstr l).size = l.length := by simp [bstr, ByteArray.size]

/-- The cells ds lie at block b from o on. -/
def Cells (w : World) (b o : Nat) (ds : List Value) : Prop := ∀ i v, ds[i]? = some v → w.cell? ⟨b, o + i, none⟩ = some v

/-- Block g holds just the cells ds. -/
def GBlk (w : World) (g : Nat) (ds : List Value) : Prop := ∃ e fr, w.heap[g]? = some (.cells ds.toArray e fr)
theorem GBlk.mono {w w' : World} {g : Nat} {ds : List Value} (h : GBlk w g ds) (hb : w'.heap[g]? = w.heap[g]?) : GBlk w' g ds := by
  obtain ⟨e, fr, h⟩ := h; exact ⟨e, fr, by rw [hb]; exact h⟩
theorem GBlk.cells {w : World} {g : Nat} {ds : List Value} (h : GBlk w g ds) : Cells w g 0 ds := by
  obtain ⟨e, fr, h⟩ := h
  intro i v hi
  rw [cell_of_row w g _ _ e fr h]
  simpa using hi
/-- The cells cs hold x; every block that x leads to is allowed by ok. -/
def RepC (w : World) (ok : Nat → Prop) : (τ : Ty) → Den τ → List Value → Prop
  | .int k, x, cs => cs = [.int k (toI k x)]
  | .bool, x, cs => cs = [.bool x]
  | .str, x, cs => cs = [.string (bstr x)]
  | .opq, _, cs => ∃ v, cs = [v] ∧ v.oneCell' = true
  | .arr n t, l, cs => l.length = n ∧ cs.length = n * t.size ∧ ∀ i x, l[i]? = some x → RepC w ok t x ((cs.drop (i * t.size)).take t.size)
  | .sl t, l, cs => ∃ a cap, cs = [.slice a l.length cap] ∧ l.length ≤ cap ∧ (l = [] ∨ ∃ b o, a = some ⟨b, o, none⟩ ∧ ok b ∧
      ∀ i x, l[i]? = some x → ∃ ds, Cells w b (o + i * t.size) ds ∧ RepC w ok t x ds)
  | .nil, _, cs => cs = []
  | .cons a b, x, cs => ∃ c d, cs = c ++ d ∧ RepC w ok a x.1 c ∧ RepC w ok b x.2 d

theorem RepC.length {w ok} : ∀ {τ : Ty} {x : Den τ} {cs : List Value}, RepC w ok τ x cs → cs.length = τ.size := by
  intro τ
  induction τ with
  | int k => intro x cs h; simp [RepC] at h; simp [h, Ty.size]
  | bool => intro x cs h; simp [RepC] at h; simp [h, Ty.size]
  | str => intro x cs h; simp [RepC] at h; simp [h, Ty.size]
  | opq => intro x cs h; obtain ⟨v, rfl, _⟩ := h; rfl
  | nil => intro x cs h; simp [RepC] at h; simp [h, Ty.size]
  | arr n t ih => intro x cs h; exact h.2.1
  | sl t ih => intro x cs h; obtain ⟨a, cap, rfl, _⟩ := h; rfl
  | cons a b iha ihb => intro x cs h; obtain ⟨c, d, rfl, h1, h2⟩ := h; simp [Ty.size, iha h1, ihb h2]

theorem Cells.mono {w w' : World} {b o : Nat} {ds : List Value} (h : Cells w b o ds) (hb : w'.heap[b]? = w.heap[b]?) : Cells w' b o ds := fun i v hi => by
  rw [World.cell?_of_block (w := w) (a := ⟨b, o + i, none⟩) hb]; exact h i v hi

theorem RepC.mono {w w' : World} {ok ok' : Nat → Prop} (hb : ∀ b, ok b → w'.heap[b]? = w.heap[b]? ∧ ok' b) :
    ∀ {τ : Ty} {x : Den τ} {cs : List Value}, RepC w ok τ x cs → RepC w' ok' τ x cs := by
  intro τ
  induction τ with
  | int k => intro x cs h; exact h
  | bool => intro x cs h; exact h
  | str => intro x cs h; exact h
  | opq => intro x cs h; exact h
  | nil => intro x cs h; exact h
  | arr n t ih => intro x cs h; exact ⟨h.1, h.2.1, fun i y hy => ih (h.2.2 i y hy)⟩
  | sl t ih =>
    intro x cs h
    obtain ⟨a, cap, rfl, hcap, h⟩ := h
    refine ⟨a, cap, rfl, hcap, ?_⟩
    rcases h with h | ⟨b, o, rfl, hk, hc⟩
    · exact .inl h
    · refine .inr ⟨b, o, rfl, (hb b hk).2, fun i y hy => ?_⟩
      obtain ⟨ds, h1, h2⟩ := hc i y hy
      exact ⟨ds, h1.mono (hb b hk).1, ih h2⟩
  | cons a b iha ihb => intro x cs h; obtain ⟨c, d, rfl, h1, h2⟩ := h; exact ⟨c, d, rfl, iha h1, ihb h2⟩

/-- The value v (of a temporary) holds x. -/
def VRep (w : World) (ok : Nat → Prop) (τ : Ty) (x : Den τ) (v : Value) : Prop :=
  if τ.isAgg then ∃ cs : List Value, v = .agg cs.toArray ∧ RepC w ok τ x cs else RepC w ok τ x [v]
theorem VRep.mono {w w' : World} {ok ok' : Nat → Prop} (hb : ∀ b, ok b → w'.heap[b]? = w.heap[b]? ∧ ok' b) {τ : Ty} {x : Den τ} {v : Value} (h : VRep w ok τ x v) : VRep w' ok' τ x v := by
  unfold VRep at h ⊢
  split
  · rename_i e; rw [if_pos e] at h; obtain ⟨cs, h1, h2⟩ := h; exact ⟨cs, h1, h2.mono hb⟩
  · rename_i e; rw [if_neg e] at h; exact h.mono hb
/-- All cells of plain data are single values. -/
theorem RepC.cells1 {w : World} {ok : Nat → Prop} : ∀ {τ : Ty} {x : Den τ} {cs : List Value}, RepC w ok τ x cs → ∀ v ∈ cs, v.oneCell' = true := by
  intro τ
  induction τ with
  | int k => intro x cs h; rw [show cs = _ from h]; simp [Value.oneCell']
  | bool => intro x cs h; rw [show cs = _ from h]; simp [Value.oneCell']
  | str => intro x cs h; rw [show cs = _ from h]; simp [Value.oneCell']
  | opq => intro x cs h; obtain ⟨v, rfl, hv⟩ := h; simpa using hv
  | nil => intro x cs h; rw [show cs = _ from h]; simp
  | sl t ih => intro x cs h; obtain ⟨a, cap, rfl, _⟩ := h; simp [Value.oneCell']
  | cons a b iha ihb =>
    intro x cs h
    obtain ⟨c, d, rfl, h1, h2⟩ := h
    intro v hv
    rcases List.mem_append.1 hv with hv | hv
    · exact iha h1 v hv
    · exact ihb h2 v hv
  | arr n t ih =>
    intro x cs h v hv
    obtain ⟨h1, h2, h3⟩ := h
    obtain ⟨j, hj, rfl⟩ := List.mem_iff_getElem.1 hv
    have hs : 0 < t.size := by
      rcases Nat.eq_zero_or_pos t.size with h0 | h0
      · rw [h0] at h2; omega
      · exact h0
    have hi : j / t.size < n := by rw [Nat.div_lt_iff_lt_mul hs]; omega
    have hx : x[j / t.size]? = some (x[j / t.size]'(by omega)) := List.getElem?_eq_getElem (by omega)
    refine ih (h3 _ _ hx) _ (List.mem_iff_getElem?.2 ⟨j % t.size, ?_⟩)
    rw [List.getElem?_take, if_pos (Nat.mod_lt _ hs), List.getElem?_drop, Nat.div_add_mod']
    exact List.getElem?_eq_getElem hj
theorem RepC.oneCell {w : World} {ok : Nat → Prop} {τ : Ty} {x : Den τ} {v : Value} (h : RepC w ok τ x [v]) : v.oneCell' = true := h.cells1 v (by simp)
theorem VRep.toCells {w : World} {ok : Nat → Prop} {τ : Ty} {x : Den τ} {v : Value} (h : VRep w ok τ x v) : RepC w ok τ x v.cells.toList := by
  unfold VRep at h
  split at h
  · obtain ⟨cs, rfl, h2⟩ := h; simpa [Value.cells] using h2
  · have := h.oneCell
    cases v <;> simp [Value.oneCell'] at this <;> simpa [Value.cells] using h
theorem RepC.ofCells {w : World} {ok : Nat → Prop} {τ : Ty} {x : Den τ} {cs : List Value} (h : RepC w ok τ x cs) :
    if τ.isAgg then VRep w ok τ x (.agg cs.toArray) else ∃ v, cs = [v] ∧ VRep w ok τ x v := by
  unfold VRep
  split
  · exact ⟨cs, rfl, h⟩
  · rename_i e
    have hl := h.length
    have : τ.size = 1 := by cases τ <;> simp [Ty.isAgg] at e <;> rfl
    rw [this] at hl
    match cs, hl with
    | [v], _ => exact ⟨v, rfl, h⟩
end Go.Sy
namespace Go.Sy
open Go Go.RowKit

/-- A step of a path into a struct or an array. -/
inductive Sp where
  | hd | tl | ix (n : Nat)
/-- What is known of a value. -/
inductive AV where
  | top
  | v (t : Ty) (x : Den t)
  | kb (b : Bool)
  | bv (t : Ty) (l : List (Den t))
  | dp (t : Ty) (x : Den t)
  | ref (o : Nat) (p : List Sp)
  | rsl (o : Nat)
  | nils
  | fn (f : Nat) (c : AV)
  | un
  | pr (a b : AV)
  | tup (a : AV)
  | ag (t : Ty) (a : AV)
  | cl (t : Ty) (x : Den t)
  | cat (a b : AV)
  deriving Inhabited
/-- What is known of a variable in memory. -/
inductive BT where
  | lf (a : AV)
  | nd (p q : BT)
  deriving Inhabited
/-- An object of the call's own: a variable; a row that a slice leads to. -/
inductive Ob where
  | free | dead
  | hidB (t : Ty)
  | hidR (e : TypeId) (t : Ty) (n : Nat)
  | hid0
  | box (t : Ty) (b : BT)
  | row (e : TypeId) (t : Ty) (l : List (Den t)) (own : Bool)
  deriving Inhabited
def Ob.mut : Ob → Bool
  | .box .. => true
  | .row _ _ _ own => own
  | .hidB _ => true
  | .hidR .. => true
  | .hid0 => true
  | _ => false
def Ob.isHid : Ob → Bool
  | .hidB _ => true
  | .hidR .. => true
  | .hid0 => true
  | _ => false
theorem Ob.hid_mut {o : Ob} (h : o.isHid = true) : o.mut = true := by cases o <;> simp_all [Ob.isHid, Ob.mut]
/-- What an object may become. -/
def Ob.leads : Ob → Ob → Prop
  | .free, _ => True
  | .dead, .dead => True
  | .hidB t, .hidB u => t = u
  | .hidR e t n, .hidR e' t' n' => e = e' ∧ t = t' ∧ n = n'
  | .hid0, .hid0 => True
  | .box .., .dead => True
  | .row .., .dead => True
  | .box t _, .box u _ => t = u
  | .row e t l _, .row e' t' l' _ => e = e' ∧ t = t' ∧ l.length = l'.length
  | _, _ => False
theorem Ob.leads_refl (o : Ob) : o.leads o := by cases o <;> simp [Ob.leads]
theorem Ob.leads_hid {a b : Ob} (h : a.leads b) (k : a.isHid = true) : b.isHid = true := by cases a <;> cases b <;> simp_all [Ob.leads, Ob.isHid]
theorem Ob.leads_trans {a b c : Ob} (h : a.leads b) (k : b.leads c) : a.leads c := by
  cases a <;> cases b <;> cases c <;> simp_all [Ob.leads]

/-- The block that is an object's own. -/
def blkOf : Value → Option Nat
  | .pointer (some a) => some a.block
  | .slice (some a) _ cap => if cap = 0 then none else some a.block
  | _ => none

structure Cx where
  P : Program
  objs : List Ob
  φ : Nat → Value
  w : World
  ok0 : Nat → Prop
  base : Nat
/-- May be read, and isn't written: no object of the call's own that may be written. -/
def Cx.okr (c : Cx) (b : Nat) : Prop := b < c.w.heap.size ∧ ∀ o, (c.objs.getD o .free).mut = true → blkOf (c.φ o) ≠ some b
/-- What data may lead to. -/
def Cx.okb (c : Cx) (b : Nat) : Prop := (c.ok0 b ∨ c.base ≤ b) ∧ c.okr b

/-- A path's place and type. -/
def pOff : Ty → List Sp → Option (Nat × Ty)
  | t, [] => some (0, t)
  | .cons a _, .hd :: p => pOff a p
  | .cons a b, .tl :: p => (pOff b p).map fun r => (a.size + r.1, r.2)
  | .arr n t, .ix i :: p => if i < n then (pOff t p).map fun r => (i * t.size + r.1, r.2) else none
  | _, _ => none
def rOff (t : Ty) (len : Nat) : List Sp → Option (Nat × Ty)
  | .ix i :: p => if i < len then (pOff t p).map fun r => (i * t.size + r.1, r.2) else none
  | _ => none

def RefRel (c : Cx) (o : Nat) (p : List Sp) (u : Value) : Prop :=
  match c.objs.getD o .free with
  | .box t _ => ∃ b off t', c.φ o = .pointer (some ⟨b, 0, none⟩) ∧ pOff t p = some (off, t') ∧ u = .pointer (some ⟨b, off, none⟩)
  | .row _ t l _ => ∃ b len cap off t', c.φ o = .slice (some ⟨b, 0, none⟩) len cap ∧ rOff t l.length p = some (off, t') ∧ u = .pointer (some ⟨b, off, none⟩)
  | .hidB t => ∃ b off t', c.φ o = .pointer (some ⟨b, 0, none⟩) ∧ pOff t p = some (off, t') ∧ u = .pointer (some ⟨b, off, none⟩)
  | .hidR _ t n => ∃ b len cap off t', c.φ o = .slice (some ⟨b, 0, none⟩) len cap ∧ rOff t n p = some (off, t') ∧ u = .pointer (some ⟨b, off, none⟩)
  | .dead => True
  | .hid0 => True
  | .free => False
def RslRel (c : Cx) (o : Nat) (u : Value) : Prop :=
  match c.objs.getD o .free with
  | .row .. => u = c.φ o
  | .hidR .. => u = c.φ o
  | .hid0 => True
  | .dead => True
  | _ => False

def AVL (c : Cx) : AV → List Value → Prop
  | .top, vs => ∃ u, vs = [u]
  | .v t x, vs => ∃ u, vs = [u] ∧ VRep c.w c.okb t x u
  | .kb b, vs => vs = [.bool b]
  | .bv t l, vs => ∃ a cap, vs = [.slice a l.length cap] ∧ l.length ≤ cap ∧ (l = [] ∨ ∃ b o, a = some ⟨b, o, none⟩ ∧ c.okr b ∧
      ∀ i x, l[i]? = some x → ∃ ds, Cells c.w b (o + i * t.size) ds ∧ RepC c.w c.okb t x ds)
  | .dp t x, vs => ∃ b o ds, vs = [.pointer (some ⟨b, o, none⟩)] ∧ c.okr b ∧ Cells c.w b o ds ∧ RepC c.w c.okb t x ds
  | .ref o p, vs => ∃ u, vs = [u] ∧ u.oneCell' = true ∧ RefRel c o p u
  | .rsl o, vs => ∃ u, vs = [u] ∧ u.oneCell' = true ∧ RslRel c o u
  | .nils, vs => vs = [.slice none 0 0]
  | .fn f k, vs => ∃ cs : List Value, vs = [.func (.func f) #[] cs.toArray] ∧ AVL c k cs
  | .un, vs => vs = []
  | .pr a b, vs => ∃ v r, vs = v :: r ∧ AVL c a [v] ∧ AVL c b r
  | .tup a, vs => ∃ cs : List Value, vs = [.tuple cs.toArray] ∧ AVL c a cs
  | .ag t a, vs => t.isAgg = true ∧ ∃ cs : List Value, vs = [.agg cs.toArray] ∧ AVL c a cs
  | .cl t x, vs => RepC c.w c.okb t x vs
  | .cat a b, vs => ∃ d e, vs = d ++ e ∧ AVL c a d ∧ AVL c b e

/-- A leaf of a variable of type t. -/
def LfR (c : Cx) (t : Ty) (av : AV) (cs : List Value) : Prop :=
  match av with
  | .top => cs.length = t.size ∧ ∀ v ∈ cs, v.oneCell' = true
  | .v u x => u = t ∧ RepC c.w c.okb u x cs
  | av => t.size = 1 ∧ t.isAgg = false ∧ ∃ u, cs = [u] ∧ u.oneCell' = true ∧ AVL c av [u]
def BTR (c : Cx) : Ty → BT → List Value → Prop
  | t, .lf av, cs => LfR c t av cs
  | .cons a b, .nd p q, cs => ∃ d e, cs = d ++ e ∧ BTR c a p d ∧ BTR c b q e
  | _, .nd _ _, _ => False

def ORel (c : Cx) (u : Value) : Ob → Prop
  | .free | .dead | .hidB _ | .hidR .. | .hid0 => True
  | .box t b => ∃ blk e cs, u = .pointer (some ⟨blk, 0, none⟩) ∧ c.w.heap[blk]? = some (.cells (List.toArray cs) e (0, 0)) ∧ BTR c t b cs
  | .row e t l _ => (∃ a, u = .slice a 0 0 ∧ l = []) ∨
      ∃ b cap xs, u = .slice (some ⟨b, 0, none⟩) l.length cap ∧ 0 < cap ∧ c.w.ownsRow 0 e t.size u l.length xs ∧
        ∀ i x, l[i]? = some x → RepC c.w c.okb t x ((xs.drop (i * t.size)).take t.size)

structure GV where
  t : Ty
  x : Den t
/-- A function's contract: parameters, results, whether its slices are its own, and what it computes. -/
structure Con where
  ps : Ty
  rs : Ty
  own : Bool
  F : Den ps → Option (Den rs)
structure Env where
  ty : List (TypeId × Ty × Nat)
  sl : List (TypeId × TypeId × Nat)
  eq : List (TypeId × Ty)
  gl : List (Nat × GV)
  con : List (FuncId × Con)
  fns : List (FuncId × Func)
  cln : List (FuncId × TypeId) := []

structure Cx.Ok (E : Env) (c : Cx) : Prop where
  base : c.base ≤ c.w.heap.size
  low : ∀ b, c.ok0 b → b < c.base
  objs : ∀ o, ORel c (c.φ o) (c.objs.getD o .free)
  inj : ∀ o o', o ≠ o' → (c.objs.getD o .free).mut = true → (c.objs.getD o' .free).mut = true → blkOf (c.φ o) = blkOf (c.φ o') → blkOf (c.φ o) = none
  high : ∀ o b, (c.objs.getD o .free).mut = true → blkOf (c.φ o) = some b → c.base ≤ b ∧ b < c.w.heap.size
  froz : ∀ o e t l, c.objs.getD o .free = .row e t l false → ∀ b, blkOf (c.φ o) = some b → c.okb b
  glob : ∀ g x, (g, x) ∈ E.gl → ∃ ds, GBlk c.w g ds ∧ RepC c.w c.okb x.t x.x ds ∧ c.okb g

/-- From c the call has come to c': what was not its own is as it was. -/
structure Cx.Evol (c c' : Cx) : Prop where
  P : c'.P = c.P
  ok0 : c'.ok0 = c.ok0
  base : c'.base = c.base
  os : c'.w.os = c.w.os
  tape : c'.w.tape = c.w.tape
  output : c'.w.output = c.w.output
  size : c.w.heap.size ≤ c'.w.heap.size
  okr : ∀ b, c.okr b → c'.w.heap[b]? = c.w.heap[b]? ∧ c'.okr b
  phi : ∀ o, (c.objs.getD o .free matches .free) = false → c'.φ o = c.φ o
  kinds : ∀ o, (c.objs.getD o .free).leads (c'.objs.getD o .free)
  hid : ∀ o b, (c.objs.getD o .free).isHid = true → blkOf (c.φ o) = some b → c'.w.heap[b]? = c.w.heap[b]?
theorem Cx.Evol.refl (c : Cx) : c.Evol c := ⟨rfl, rfl, rfl, rfl, rfl, rfl, Nat.le_refl _, fun _ h => ⟨rfl, h⟩, fun _ _ => rfl, fun _ => Ob.leads_refl _, fun _ _ _ _ => rfl⟩
theorem Cx.Evol.trans {a b c : Cx} (h : a.Evol b) (k : b.Evol c) : a.Evol c where
  P := k.P.trans h.P
  ok0 := k.ok0.trans h.ok0
  base := k.base.trans h.base
  os := k.os.trans h.os
  tape := k.tape.trans h.tape
  output := k.output.trans h.output
  size := Nat.le_trans h.size k.size
  okr := fun x hx => ⟨(k.okr x (h.okr x hx).2).1.trans (h.okr x hx).1, (k.okr x (h.okr x hx).2).2⟩
  phi := fun o ho => (k.phi o (by
    have := h.kinds o
    cases ha : a.objs.getD o .free <;> cases hb : b.objs.getD o .free <;> simp_all [Ob.leads])).trans (h.phi o ho)
  kinds := fun o => Ob.leads_trans (h.kinds o) (k.kinds o)
  hid := fun o x hx hb => (k.hid o x (Ob.leads_hid (h.kinds o) hx) (by
    rw [h.phi o (by cases ha : a.objs.getD o .free <;> rw [ha] at hx <;> first | rfl | cases hx)]; exact hb)).trans (h.hid o x hx hb)
theorem Cx.Evol.okb {c c' : Cx} (h : c.Evol c') : ∀ b, c.okb b → c'.w.heap[b]? = c.w.heap[b]? ∧ c'.okb b := fun b hb =>
  ⟨(h.okr b hb.2).1, by unfold Cx.okb; rw [h.ok0, h.base]; exact ⟨hb.1, (h.okr b hb.2).2⟩⟩

theorem RefRel.evol {c c' : Cx} (h : c.Evol c') {o : Nat} {p : List Sp} {u : Value} (hr : RefRel c o p u) : RefRel c' o p u := by
  have hk := h.kinds o
  have hp := h.phi o
  unfold RefRel at hr ⊢
  cases ha : c.objs.getD o .free <;> cases hb : c'.objs.getD o .free <;> simp_all [Ob.leads]
theorem RslRel.evol {c c' : Cx} (h : c.Evol c') {o : Nat} {u : Value} (hr : RslRel c o u) : RslRel c' o u := by
  have hk := h.kinds o
  have hp := h.phi o
  unfold RslRel at hr ⊢
  cases ha : c.objs.getD o .free <;> cases hb : c'.objs.getD o .free <;> simp_all [Ob.leads]
theorem AVL.evol {c c' : Cx} (h : c.Evol c') : ∀ {av : AV} {vs : List Value}, AVL c av vs → AVL c' av vs := by
  intro av
  induction av with
  | top => intro vs hv; exact hv
  | v t x => intro vs hv; obtain ⟨u, rfl, hu⟩ := hv; exact ⟨u, rfl, hu.mono h.okb⟩
  | kb b => intro vs hv; exact hv
  | bv t l =>
    intro vs hv
    obtain ⟨a, cap, rfl, hcap, hv⟩ := hv
    refine ⟨a, cap, rfl, hcap, ?_⟩
    rcases hv with hv | ⟨b, o, rfl, hb, hc⟩
    · exact .inl hv
    · refine .inr ⟨b, o, rfl, (h.okr b hb).2, fun i x hx => ?_⟩
      obtain ⟨ds, h1, h2⟩ := hc i x hx
      exact ⟨ds, h1.mono (h.okr b hb).1, h2.mono h.okb⟩
  | dp t x => intro vs hv; obtain ⟨b, o, ds, rfl, hb, h1, h2⟩ := hv; exact ⟨b, o, ds, rfl, (h.okr b hb).2, h1.mono (h.okr b hb).1, h2.mono h.okb⟩
  | ref o p => intro vs hv; obtain ⟨u, rfl, h1, hu⟩ := hv; exact ⟨u, rfl, h1, hu.evol h⟩
  | rsl o => intro vs hv; obtain ⟨u, rfl, h1, hu⟩ := hv; exact ⟨u, rfl, h1, hu.evol h⟩
  | nils => intro vs hv; exact hv
  | fn f k ih => intro vs hv; obtain ⟨cs, rfl, hu⟩ := hv; exact ⟨cs, rfl, ih hu⟩
  | un => intro vs hv; exact hv
  | pr a b iha ihb => intro vs hv; obtain ⟨v, r, rfl, h1, h2⟩ := hv; exact ⟨v, r, rfl, iha h1, ihb h2⟩
  | tup a ih => intro vs hv; obtain ⟨cs, rfl, hu⟩ := hv; exact ⟨cs, rfl, ih hu⟩
  | ag t a ih => intro vs hv; obtain ⟨ht, cs, rfl, hu⟩ := hv; exact ⟨ht, cs, rfl, ih hu⟩
  | cl t x => intro vs hv; exact RepC.mono h.okb hv
  | cat a b iha ihb => intro vs hv; obtain ⟨d, e, rfl, h1, h2⟩ := hv; exact ⟨d, e, rfl, iha h1, ihb h2⟩
theorem LfR.evol {c c' : Cx} (h : c.Evol c') {t : Ty} {av : AV} {cs : List Value} (hl : LfR c t av cs) : LfR c' t av cs := by
  cases av <;> first
    | exact hl
    | exact ⟨hl.1, hl.2.mono h.okb⟩
    | (obtain ⟨h1, h2, u, h3, h4, h5⟩ := hl; exact ⟨h1, h2, u, h3, h4, h5.evol h⟩)
theorem BTR.evol {c c' : Cx} (h : c.Evol c') : ∀ {b : BT} {t : Ty} {cs : List Value}, BTR c t b cs → BTR c' t b cs := by
  intro b
  induction b with
  | lf av => intro t cs hl; cases t <;> exact LfR.evol h hl
  | nd p q ihp ihq =>
    intro t cs hl
    cases t with
    | cons a b => obtain ⟨d, e, rfl, h1, h2⟩ := hl; exact ⟨d, e, rfl, ihp h1, ihq h2⟩
    | _ => exact hl
/-- An object whose block has not turned. -/
theorem ORel.evol {c c' : Cx} (h : c.Evol c') {u : Value} {ob : Ob} (hb : ∀ b, blkOf u = some b → c'.w.heap[b]? = c.w.heap[b]?) (ho : ORel c u ob) : ORel c' u ob := by
  cases ob with
  | free => trivial
  | dead => trivial
  | hidB _ => trivial
  | hidR _ _ _ => trivial
  | hid0 => trivial
  | box t b =>
    obtain ⟨blk, e, cs, rfl, h1, h2⟩ := ho
    exact ⟨blk, e, cs, rfl, by rw [hb blk rfl]; exact h1, h2.evol h⟩
  | row e t l own =>
    rcases ho with ho | ⟨b, cap, xs, rfl, hc, h1, h2⟩
    · exact .inl ho
    · have hbb := hb b (by simp [blkOf]; omega)
      refine .inr ⟨b, cap, xs, rfl, hc, ⟨h1.1, ?_⟩, fun i x hx => (h2 i x hx).mono h.okb⟩
      rcases h1.2 with h3 | ⟨g, cap', cur, h3, h4, h5, h6⟩
      · exact .inl h3
      · cases h3; exact .inr ⟨b, cap, cur, rfl, h4, by rw [hbb]; exact h5, h6⟩

/-- One object (number k) is made or turned, and at most one block of its own, or new ones. -/
theorem Cx.step {E : Env} {c c' : Cx} (h : c.Ok E) (k : Nat) (hP : c'.P = c.P) (h0 : c'.ok0 = c.ok0) (hbase : c'.base = c.base) (hos : c'.w.os = c.w.os) (htape : c'.w.tape = c.w.tape)
    (hout : c'.w.output = c.w.output) (hsize : c.w.heap.size ≤ c'.w.heap.size)
    (hobjs : ∀ o, o ≠ k → c'.objs.getD o .free = c.objs.getD o .free) (hphi : ∀ o, o ≠ k → c'.φ o = c.φ o)
    (hk : (c.objs.getD k .free).leads (c'.objs.getD k .free)) (hkphi : (c.objs.getD k .free matches .free) = false → c'.φ k = c.φ k)
    (hhid : ∀ b, (c.objs.getD k .free).isHid = true → blkOf (c.φ k) = some b → c'.w.heap[b]? = c.w.heap[b]?)
    (hblk : ∀ b, b < c.w.heap.size → ((c.objs.getD k .free).mut = true → blkOf (c.φ k) ≠ some b) → c'.w.heap[b]? = c.w.heap[b]?)
    (hmut : (c'.objs.getD k .free).mut = true → ∀ b, blkOf (c'.φ k) = some b → ((c.objs.getD k .free).mut = true ∧ blkOf (c.φ k) = some b) ∨ (c.w.heap.size ≤ b ∧ b < c'.w.heap.size))
    (hor : c.Evol c' → ORel c' (c'.φ k) (c'.objs.getD k .free))
    (hfroz : ∀ e t l, c'.objs.getD k .free = .row e t l false → ∀ b, blkOf (c'.φ k) = some b → (c.objs.getD k .free).mut = true ∧ blkOf (c.φ k) = some b ∨ c.okb b) :
    c'.Ok E ∧ c.Evol c' := by
  have hev : c.Evol c' := by
    refine ⟨hP, h0, hbase, hos, htape, hout, hsize, fun b hb => ⟨hblk b hb.1 (fun hm => hb.2 k hm), ⟨Nat.lt_of_lt_of_le hb.1 hsize, fun o ho => ?_⟩⟩, fun o ho => ?_, fun o => ?_, fun o b ho hb => ?_⟩
    · by_cases e : o = k
      · subst e
        intro hb'
        rcases hmut ho b hb' with ⟨h1, h2⟩ | ⟨h1, _⟩
        · exact hb.2 o h1 h2
        · exact absurd hb.1 (by omega)
      · rw [hphi o e]; rw [hobjs o e] at ho; exact hb.2 o ho
    · by_cases e : o = k
      · subst e; exact hkphi ho
      · exact hphi o e
    · by_cases e : o = k
      · subst e; exact hk
      · rw [hobjs o e]; exact Ob.leads_refl _
    · by_cases e : o = k
      · subst e; exact hhid b ho hb
      · have hm := Ob.hid_mut ho
        exact hblk b (h.high o b hm hb).2 (fun hmk hbk => by
          have := h.inj o k e hm hmk (hb.trans hbk.symm)
          rw [hb] at this; cases this)
  have hmutc : ∀ o b, (c'.objs.getD o .free).mut = true → blkOf (c'.φ o) = some b → ((c.objs.getD o .free).mut = true ∧ blkOf (c.φ o) = some b) ∨ (o = k ∧ c.w.heap.size ≤ b ∧ b < c'.w.heap.size) := by
    intro o b ho hb
    by_cases e : o = k
    · subst e
      rcases hmut ho b hb with h1 | h1
      · exact .inl h1
      · exact .inr ⟨rfl, h1⟩
    · rw [hobjs o e] at ho; rw [hphi o e] at hb; exact .inl ⟨ho, hb⟩
  refine ⟨⟨by rw [hbase]; exact Nat.le_trans h.base hsize, by rw [h0, hbase]; exact h.low, fun o => ?_, fun o o' hne hm hm' hbb => ?_, fun o b ho hb => ?_, fun o e t l ho b hb => ?_, fun g x hg => ?_⟩, hev⟩
  · by_cases e : o = k
    · subst e; exact hor hev
    · rw [hphi o e, hobjs o e]
      have hm : (c.objs.getD o .free).mut = true → ∀ b, blkOf (c.φ o) = some b → c'.w.heap[b]? = c.w.heap[b]? := fun hm b hb =>
        hblk b (h.high o b hm hb).2 (fun hmk hbk => by
          have := h.inj o k e hm hmk (hb.trans hbk.symm)
          rw [hb] at this; cases this)
      cases hob : c.objs.getD o .free with
      | free => trivial
      | dead => trivial
      | hidB _ => trivial
      | hidR _ _ _ => trivial
      | hid0 => trivial
      | box t bt => have ho := h.objs o; rw [hob] at ho; exact ORel.evol hev (hm (by rw [hob]; rfl)) ho
      | row e t l own =>
        have ho := h.objs o
        rw [hob] at ho
        cases own with
        | true => exact ORel.evol hev (hm (by rw [hob]; rfl)) ho
        | false => exact ORel.evol hev (fun b hb => (hev.okr b (h.froz o e t l hob b hb).2).1) ho
  · cases hb1 : blkOf (c'.φ o) with
    | none => rfl
    | some b =>
      have hb2 : blkOf (c'.φ o') = some b := by rw [← hbb, hb1]
      exfalso
      rcases hmutc o b hm hb1 with ⟨m1, e1⟩ | ⟨e1, l1, _⟩ <;> rcases hmutc o' b hm' hb2 with ⟨m2, e2⟩ | ⟨e2, l2, _⟩
      · have := h.inj o o' hne m1 m2 (e1.trans e2.symm); rw [e1] at this; cases this
      · have := (h.high o b m1 e1).2; omega
      · have := (h.high o' b m2 e2).2; omega
      · exact hne (e1.trans e2.symm)
  · rcases hmutc o b ho hb with ⟨m1, e1⟩ | ⟨_, l1, l2⟩
    · rw [hbase]; exact ⟨(h.high o b m1 e1).1, Nat.lt_of_lt_of_le (h.high o b m1 e1).2 hsize⟩
    · rw [hbase]; exact ⟨Nat.le_trans h.base l1, l2⟩
  · by_cases e' : o = k
    · subst e'
      rcases hfroz e t l ho b hb with ⟨m1, e1⟩ | h1
      · have hh := h.high o b m1 e1
        unfold Cx.okb Cx.okr
        rw [h0, hbase]
        refine ⟨.inr hh.1, Nat.lt_of_lt_of_le hh.2 hsize, fun o' m2 e2 => ?_⟩
        rcases hmutc o' b m2 e2 with ⟨m3, e3⟩ | ⟨_, l3, _⟩
        · by_cases e4 : o' = o
          · subst e4; rw [ho] at m2; cases m2
          · have := h.inj o' o e4 m3 m1 (e3.trans e1.symm); rw [e3] at this; cases this
        · omega
      · exact (hev.okb b h1).2
    · rw [hobjs o e'] at ho; rw [hphi o e'] at hb; exact (hev.okb b (h.froz o e t l ho b hb)).2
  · obtain ⟨ds, h1, h2, h3⟩ := h.glob g x hg
    exact ⟨ds, h1.mono (hev.okb g h3).1, h2.mono hev.okb, (hev.okb g h3).2⟩
end Go.Sy
namespace Go.Sy
open Go Go.RowKit

/-- The cells of a zero value. -/
def zChk : Ty → List Value → Bool
  | .int k, [.int j 0] => kbeq k j
  | .bool, [.bool false] => true
  | .str, [.string s] => s.size == 0
  | .opq, [v] => v.oneCell'
  | .sl _, [.slice none 0 0] => true
  | .nil, [] => true
  | .cons a b, cs => zChk a (cs.take a.size) && zChk b (cs.drop a.size)
  | .arr n t, cs => cs.length == n * t.size && (List.range n).all fun i => zChk t ((cs.drop (i * t.size)).take t.size)
  | _, _ => false
theorem toI_zero (k : IntKind) : toI k (ofI k 0) = 0 := by rw [toI_ofI]; cases k <;> rfl
theorem zChk_ok {w : World} {ok : Nat → Prop} : ∀ {τ : Ty} {cs : List Value}, zChk τ cs = true → RepC w ok τ (dflt τ) cs := by
  intro τ
  induction τ with
  | int k =>
    intro cs h
    unfold zChk at h
    split at h <;> simp_all
    rename_i h'
    rw [← kbeq_eq h]
    simp [RepC, dflt, toI_zero]
    exact h'.symm
  | bool => intro cs h; unfold zChk at h; split at h <;> simp_all [RepC, dflt]
  | str =>
    intro cs h; unfold zChk at h; split at h <;> simp_all [RepC, dflt]
    rfl
  | opq =>
    intro cs h; unfold zChk at h; split at h <;> simp_all [RepC]
  | sl t ih => intro cs h; unfold zChk at h; split at h <;> simp_all [RepC, dflt]
  | nil => intro cs h; unfold zChk at h; split at h <;> simp_all [RepC]
  | cons a b iha ihb =>
    intro cs h
    simp only [zChk, Bool.and_eq_true] at h
    exact ⟨cs.take a.size, cs.drop a.size, (List.take_append_drop _ _).symm, iha h.1, ihb h.2⟩
  | arr n t ih =>
    intro cs h
    simp only [zChk, Bool.and_eq_true, beq_iff_eq, List.all_eq_true, List.mem_range] at h
    refine ⟨by simp [dflt], h.1, fun i x hx => ?_⟩
    simp only [dflt, List.getElem?_replicate] at hx
    split at hx
    · cases hx; exact ih (h.2 i ‹_›)
    · cases hx

/-- What the table says of a type, whatever it is. -/
def zAgg : Value → Bool
  | .agg _ => true
  | _ => false
def hdr (P : Program) (τ : Ty) (t : TypeId) : Bool :=
  match P.info? t with
  | some i => i.size == τ.size && (match i.zero with | some z => zChk τ z.cells.toList && (zAgg z == τ.isAgg) | none => false)
  | none => false
def slOf (P : Program) (t : TypeId) : Option TypeId := match P.underlying t with | some (.slice e) => some e | _ => none
def arrOf (P : Program) (t : TypeId) : Option (Nat × TypeId) := match P.underlying t with | some (.array n e) => some (n, e) | _ => none
def stOf (P : Program) (t : TypeId) : Option (List Field) := match P.underlying t with | some (.struct fs) => some fs.toList | _ => none
theorem slOf_eq {P : Program} {t e : TypeId} (h : slOf P t = some e) : P.underlying t = some (.slice e) := by
  unfold slOf at h; split at h <;> simp_all
theorem arrOf_eq {P : Program} {t e : TypeId} {n : Nat} (h : arrOf P t = some (n, e)) : P.underlying t = some (.array n e) := by
  unfold arrOf at h; split at h <;> simp_all
theorem stOf_eq {P : Program} {t : TypeId} {l : List Field} (h : stOf P t = some l) : P.underlying t = some (.struct l.toArray) := by
  unfold stOf at h; split at h <;> simp_all
  rw [← h]
def fOk (f : Field) (off : Nat) : Bool := f.offset == off && f.name != "_"
/-- Is t the plain data type τ in the program's table? -/
def chk (P : Program) : Ty → (TypeId ⊕ (Nat × List Field)) → Bool
  | .int k, .inl t => hdr P (.int k) t && (match P.underlying t with | some (.int j) => kbeq k j | _ => false)
  | .bool, .inl t => hdr P .bool t && (match P.underlying t with | some .bool => true | _ => false)
  | .str, .inl t => hdr P .str t && (match P.underlying t with | some .string => true | _ => false)
  | .opq, .inl t => hdr P .opq t && (match P.underlying t with | some (.pointer _) => true | some (.func ..) => true | some (.map ..) => true | _ => false)
  | .arr n u, .inl t => hdr P (.arr n u) t && (match arrOf P t with | some (m, e) => n == m && chk P u (.inl e) | none => false)
  | .sl u, .inl t => hdr P (.sl u) t && (match slOf P t with | some e => chk P u (.inl e) | none => false)
  | .nil, .inl t => hdr P .nil t && (match stOf P t with | some l => l.isEmpty | none => false)
  | .cons a b, .inl t => hdr P (.cons a b) t && (match stOf P t with
    | some (f :: r) => fOk f 0 && chk P a (.inl f.type) && chk P b (.inr (a.size, r))
    | _ => false)
  | .nil, .inr x => x.2.isEmpty
  | .cons a b, .inr x => (match x.2 with
    | f :: r => fOk f x.1 && chk P a (.inl f.type) && chk P b (.inr (x.1 + a.size, r))
    | [] => false)
  | .int _, .inr _ => false
  | .bool, .inr _ => false
  | .str, .inr _ => false
  | .opq, .inr _ => false
  | .arr _ _, .inr _ => false
  | .sl _, .inr _ => false

/-- What the table says of a type. -/
structure TyF (P : Program) (τ : Ty) (t : TypeId) (i : TypeInfo) (z : Value) : Prop where
  info : P.info? t = some i
  size : i.size = τ.size
  zero : i.zero = some z
  zchk : zChk τ z.cells.toList = true
  zagg : zAgg z = τ.isAgg
theorem chk_hdr {P : Program} {τ : Ty} {t : TypeId} (h : chk P τ (.inl t) = true) : hdr P τ t = true := by
  cases τ <;> (simp only [chk, Bool.and_eq_true] at h; exact h.1)
theorem chk_facts {P : Program} {τ : Ty} {t : TypeId} (h : chk P τ (.inl t) = true) : ∃ i z, TyF P τ t i z := by
  have h := chk_hdr h
  unfold hdr at h
  split at h
  · rename_i i hi
    simp only [Bool.and_eq_true, beq_iff_eq] at h
    split at h
    · rename_i z hz
      simp only [Bool.and_eq_true, beq_iff_eq] at h
      exact ⟨i, z, hi, h.1, hz, h.2.1, h.2.2⟩
    · simp at h
  · cases h
theorem chk_int {P : Program} {k : IntKind} {t : TypeId} (h : chk P (.int k) (.inl t) = true) : P.underlying t = some (.int k) := by
  simp only [chk, Bool.and_eq_true] at h
  have h2 := h.2
  split at h2
  · rename_i h3; rw [h3, kbeq_eq h2]
  · cases h2
theorem chk_bool {P : Program} {t : TypeId} (h : chk P .bool (.inl t) = true) : P.underlying t = some .bool := by
  simp only [chk, Bool.and_eq_true] at h
  have h2 := h.2
  split at h2
  · assumption
  · cases h2
theorem chk_str {P : Program} {t : TypeId} (h : chk P .str (.inl t) = true) : P.underlying t = some .string := by
  simp only [chk, Bool.and_eq_true] at h
  have h2 := h.2
  split at h2
  · assumption
  · cases h2
theorem chk_sl {P : Program} {u : Ty} {t : TypeId} (h : chk P (.sl u) (.inl t) = true) : ∃ e, P.underlying t = some (.slice e) ∧ chk P u (.inl e) = true := by
  simp only [chk, Bool.and_eq_true] at h
  have h2 := h.2
  split at h2
  · rename_i h3; exact ⟨_, slOf_eq h3, h2⟩
  · cases h2
theorem chk_arr {P : Program} {n : Nat} {u : Ty} {t : TypeId} (h : chk P (.arr n u) (.inl t) = true) : ∃ e, P.underlying t = some (.array n e) ∧ chk P u (.inl e) = true := by
  simp only [chk, Bool.and_eq_true] at h
  have h2 := h.2
  split at h2
  · rename_i h3; simp only [Bool.and_eq_true, beq_iff_eq] at h2; rw [← h2.1] at h3; exact ⟨_, arrOf_eq h3, h2.2⟩
  · cases h2
/-- Field i of a struct: its place, its type, the way to it. -/
def fld : Ty → Nat → Option (Nat × Ty × List Sp)
  | .cons a _, 0 => some (0, a, [.hd])
  | .cons a b, i + 1 => (fld b i).map fun r => (a.size + r.1, r.2.1, .tl :: r.2.2)
  | _, _ => none
theorem chk_fields {P : Program} : ∀ {τ : Ty} {x : Nat × List Field}, chk P τ (.inr x) = true → ∀ i o u p, fld τ i = some (o, u, p) →
    ∃ f, x.2[i]? = some f ∧ f.offset = x.1 + o ∧ chk P u (.inl f.type) = true ∧ f.name ≠ "_" := by
  intro τ
  induction τ with
  | cons a b iha ihb =>
    intro x h i o u p hf
    obtain ⟨off, fs⟩ := x
    cases fs with
    | nil => simp [chk] at h
    | cons f r =>
      simp only [chk, Bool.and_eq_true, fOk, beq_iff_eq, bne_iff_ne] at h
      cases i with
      | zero => simp [fld] at hf; obtain ⟨rfl, rfl, rfl⟩ := hf; exact ⟨f, rfl, by simpa using h.1.1.1, h.1.2, h.1.1.2⟩
      | succ i =>
        simp only [fld, Option.map_eq_some_iff] at hf
        obtain ⟨⟨o', u', p'⟩, hf', he⟩ := hf
        cases he
        obtain ⟨g, h1, h2, h3⟩ := ihb h.2 i o' u' p' hf'
        exact ⟨g, by simpa using h1, by simp only [h2]; omega, h3⟩
  | _ => intro x h i o u p hf; simp [fld] at hf
theorem chk_struct {P : Program} {τ : Ty} {t : TypeId} (h : chk P τ (.inl t) = true) {i o : Nat} {u : Ty} {p : List Sp} (hf : fld τ i = some (o, u, p)) :
    ∃ fs, P.underlying t = some (.struct fs) ∧ ∃ f, fs[i]? = some f ∧ f.offset = o ∧ chk P u (.inl f.type) = true := by
  cases τ with
  | cons a b =>
    simp only [chk, Bool.and_eq_true] at h
    have h2 := h.2
    split at h2
    · rename_i f r h3
      have h4 : chk P (.cons a b) (.inr (0, f :: r)) = true := by
        simp only [chk, Bool.and_eq_true, Nat.zero_add]; simpa only [Bool.and_eq_true] using h2
      obtain ⟨g, h5, h6, h7, _⟩ := chk_fields h4 i o u p hf
      exact ⟨_, stOf_eq h3, g, by simpa using h5, by omega, h7⟩
    · cases h2
  | _ => simp [fld] at hf
theorem fld_pOff : ∀ {τ : Ty} {i o : Nat} {u : Ty} {p : List Sp}, fld τ i = some (o, u, p) → ∀ q, pOff τ (p ++ q) = (pOff u q).map fun r => (o + r.1, r.2) := by
  intro τ
  induction τ with
  | cons a b iha ihb =>
    intro i o u p hf q
    cases i with
    | zero => simp [fld] at hf; obtain ⟨rfl, rfl, rfl⟩ := hf; simp [pOff]
    | succ i =>
      simp only [fld, Option.map_eq_some_iff] at hf
      obtain ⟨⟨o', u', p'⟩, hf', he⟩ := hf
      cases he
      simp only [List.cons_append, pOff, ihb hf' q, Option.map_map]
      congr 1; funext r; simp; omega
  | _ => intro i o u p hf; simp [fld] at hf
theorem pOff_append : ∀ {p : List Sp} {τ u : Ty} {o : Nat}, pOff τ p = some (o, u) → ∀ q, pOff τ (p ++ q) = (pOff u q).map fun r => (o + r.1, r.2) := by
  intro p
  induction p with
  | nil => intro τ u o h q; simp [pOff] at h; obtain ⟨rfl, rfl⟩ := h; simp
  | cons s p ih =>
    intro τ u o h q
    cases s <;> cases τ <;> simp only [pOff, List.cons_append, reduceCtorEq] at h ⊢
    · exact ih h q
    · simp only [Option.map_eq_some_iff] at h
      obtain ⟨⟨o', u'⟩, h', he⟩ := h
      cases he
      rw [ih h' q, Option.map_map]
      congr 1; funext r; simp; omega
    · split at h
      · rename_i hlt
        simp only [Option.map_eq_some_iff] at h
        obtain ⟨⟨o', u'⟩, h', he⟩ := h
        cases he
        rw [if_pos hlt, ih h' q, Option.map_map]
        congr 1; funext r; simp; omega
      · cases h
theorem run_sizeOf {P : Program} {τ : Ty} {t : TypeId} (h : chk P τ (.inl t) = true) (w : World) : (sizeOf t).run P w = .ok τ.size w := by
  obtain ⟨i, z, hf⟩ := chk_facts h
  simp [sizeOf, typeInfo, hf.info, hf.size]
theorem run_isAgg {P : Program} {τ : Ty} {t : TypeId} (h : chk P τ (.inl t) = true) (w : World) : (isAgg t).run P w = .ok τ.isAgg w := by
  have h0 := h
  cases τ <;> simp only [chk, Bool.and_eq_true] at h
  · simp [isAgg, run_underlying (chk_int h0), Ty.isAgg]
  · simp [isAgg, run_underlying (chk_bool h0), Ty.isAgg]
  · simp [isAgg, run_underlying (chk_str h0), Ty.isAgg]
  · have h2 := h.2; split at h2 <;> first | (rename_i h3; simp [isAgg, run_underlying h3, Ty.isAgg]; done) | cases h2
  · obtain ⟨e, h1, _⟩ := chk_arr h0; simp [isAgg, run_underlying h1, Ty.isAgg]
  · obtain ⟨e, h1, _⟩ := chk_sl h0; simp [isAgg, run_underlying h1, Ty.isAgg]
  · have h2 := h.2; split at h2 <;> first | (rename_i h3; simp [isAgg, run_underlying (stOf_eq h3), Ty.isAgg]; done) | cases h2
  · have h2 := h.2; split at h2 <;> first | (rename_i h3; simp [isAgg, run_underlying (stOf_eq h3), Ty.isAgg]; done) | cases h2
/-- The code of slices.Clone at slice type t. -/
inductive CloneCode (t : TypeId) : Code → Prop
  | mk (i0 i1 i2 i3 : Nat) (y0 y1 y2 y3 y4 y5 y6 y7 yx : TypeId) (p0 p1 p2 p3 p4 p5 p6 p7 : String) (a0 a1 a2 a3 a4 a5 a6 a7 : Array Edge) :
    CloneCode t (.seq (.region i0 #[⟨some 2, .assign (.const (.slice none 0 0)), y0, p0, a0, none⟩] false)
      (.seq (.seq (.region i1 #[⟨some 3, .move (.tmp 0), y1, p1, a1, none⟩, ⟨some 4, .binOp .eql t (.tmp 3) (.const (.slice none 0 0)) yx, y2, p2, a2, none⟩] false)
        (.cond (.tmp 4) (.seq (.region i2 #[⟨some 2, .assign (.const (.slice none 0 0)), y3, p3, a3, none⟩] false) .ret) .skip))
      (.seq (.region i3 #[⟨some 5, .buildSlice t 0 #[], y4, p4, a4, none⟩, ⟨some 6, .move (.tmp 0), y5, p5, a5, none⟩, ⟨some 7, .call ⟨.builtin .append, #[.tmp 5, .tmp 6], #[t, t]⟩, y6, p6, a6, none⟩, ⟨some 2, .assign (.tmp 7), y7, p7, a7, none⟩] false) .ret)))
structure CloneFn (P : Program) (f : FuncId) (t : TypeId) : Prop where
  ok : ∃ fn code, P.funcs[f]? = some fn ∧ (fn.name == "runtime.NumGoroutine") = false ∧ fn.body = some code ∧ CloneCode t code ∧ fn.ntmps = 8 ∧ fn.results.toList = [.tmp 2]
end Go.Sy
namespace Go.Sy
open Go Go.RowKit

def w64 (n : Int) : Int := IntKind.i64.wrap n
theorem w64_id {n : Int} (h1 : -9223372036854775808 ≤ n) (h2 : n < 9223372036854775808) : w64 n = n := by
  simp only [w64, IntKind.wrap, IntKind.signed, IntKind.bits]; simp; split <;> omega

/-- A step on two numbers of one kind. -/
@[reducible] def on2 (fi : Int → Int → Int) (fb : {n : Nat} → BitVec n → BitVec n → BitVec n) : (k : IntKind) → IDen k → IDen k → IDen k
  | .i64, x, y => fi x y
  | .u64, x, y => fb x y | .u32, x, y => fb x y | .u16, x, y => fb x y | .u8, x, y => fb x y
  | .i32, x, y => fb x y | .i16, x, y => fb x y | .i8, x, y => fb x y
def bit64 (f : BitVec 64 → BitVec 64 → BitVec 64) (x y : Int) : Int := w64 ((f (BitVec.ofInt 64 x) (BitVec.ofInt 64 y)).toNat)
def add (k : IntKind) : IDen k → IDen k → IDen k := on2 (fun x y => w64 (x + y)) (fun x y => y + x) k
def sub (k : IntKind) : IDen k → IDen k → IDen k := on2 (fun x y => w64 (x - y)) (fun x y => x - y) k
def mul (k : IntKind) : IDen k → IDen k → IDen k := on2 (fun x y => w64 (x * y)) (fun x y => y * x) k
def andI (k : IntKind) : IDen k → IDen k → IDen k := on2 (bit64 fun x y => x &&& y) (fun x y => x &&& y) k
def orI (k : IntKind) : IDen k → IDen k → IDen k := on2 (bit64 fun x y => x ||| y) (fun x y => x ||| y) k
def xorI (k : IntKind) : IDen k → IDen k → IDen k := on2 (bit64 fun x y => x ^^^ y) (fun x y => x ^^^ y) k
def andNot (k : IntKind) : IDen k → IDen k → IDen k := on2 (bit64 fun x y => x &&& ~~~y) (fun x y => x &&& ~~~y) k
def quo : (k : IntKind) → IDen k → IDen k → IDen k
  | .i64, x, y => w64 (x.tdiv y)
  | .u64, x, y => x / y | .u32, x, y => x / y | .u16, x, y => x / y | .u8, x, y => x / y
  | .i32, x, y => x.sdiv y | .i16, x, y => x.sdiv y | .i8, x, y => x.sdiv y
def rem : (k : IntKind) → IDen k → IDen k → IDen k
  | .i64, x, y => x.tmod y
  | .u64, x, y => x % y | .u32, x, y => x % y | .u16, x, y => x % y | .u8, x, y => x % y
  | .i32, x, y => x.srem y | .i16, x, y => x.srem y | .i8, x, y => x.srem y
def isZ : (k : IntKind) → IDen k → Bool
  | .i64, x => decide (x = 0)
  | .u64, x => decide (x = 0) | .u32, x => decide (x = 0) | .u16, x => decide (x = 0) | .u8, x => decide (x = 0)
  | .i32, x => decide (x = 0) | .i16, x => decide (x = 0) | .i8, x => decide (x = 0)
def eqI : (k : IntKind) → IDen k → IDen k → Bool
  | .i64, x, y => decide (x = y)
  | .u64, x, y => decide (x = y) | .u32, x, y => decide (x = y) | .u16, x, y => decide (x = y) | .u8, x, y => decide (x = y)
  | .i32, x, y => decide (x = y) | .i16, x, y => decide (x = y) | .i8, x, y => decide (x = y)
def ltI : (k : IntKind) → IDen k → IDen k → Bool
  | .i64, x, y => decide (x < y)
  | .u64, x, y => decide (x < y) | .u32, x, y => decide (x < y) | .u16, x, y => decide (x < y) | .u8, x, y => decide (x < y)
  | .i32, x, y => x.slt y | .i16, x, y => x.slt y | .i8, x, y => x.slt y
def leI : (k : IntKind) → IDen k → IDen k → Bool
  | .i64, x, y => decide (x ≤ y)
  | .u64, x, y => decide (x ≤ y) | .u32, x, y => decide (x ≤ y) | .u16, x, y => decide (x ≤ y) | .u8, x, y => decide (x ≤ y)
  | .i32, x, y => x.sle y | .i16, x, y => x.sle y | .i8, x, y => x.sle y
/-- A shift's count, and whether it isn't below zero. -/
def cnt : (k : IntKind) → IDen k → Nat
  | .i64, x => x.toNat
  | .u64, x => x.toNat | .u32, x => x.toNat | .u16, x => x.toNat | .u8, x => x.toNat
  | .i32, x => x.toInt.toNat | .i16, x => x.toInt.toNat | .i8, x => x.toInt.toNat
def cntOk : (k : IntKind) → IDen k → Bool
  | .i64, x => decide (0 ≤ x)
  | .i32, x => decide (0 ≤ x.toInt) | .i16, x => decide (0 ≤ x.toInt) | .i8, x => decide (0 ≤ x.toInt)
  | _, _ => true
def shl : (k : IntKind) → IDen k → Nat → IDen k
  | .i64, x, n => w64 (x * 2 ^ min n 64)
  | .u64, x, n => x <<< n | .u32, x, n => x <<< n | .u16, x, n => x <<< n | .u8, x, n => x <<< n
  | .i32, x, n => x <<< n | .i16, x, n => x <<< n | .i8, x, n => x <<< n
def shr : (k : IntKind) → IDen k → Nat → IDen k
  | .i64, x, n => x.fdiv (2 ^ min n 64)
  | .u64, x, n => x >>> n | .u32, x, n => x >>> n | .u16, x, n => x >>> n | .u8, x, n => x >>> n
  | .i32, x, n => x.sshiftRight n | .i16, x, n => x.sshiftRight n | .i8, x, n => x.sshiftRight n
def notI : (k : IntKind) → IDen k → IDen k
  | .i64, x => bit64 (fun x y => x ^^^ y) (-1) x
  | .u64, x => ~~~x | .u32, x => ~~~x | .u16, x => ~~~x | .u8, x => ~~~x
  | .i32, x => ~~~x | .i16, x => ~~~x | .i8, x => ~~~x
/-- A number as one of another kind. -/
def cv : (k j : IntKind) → IDen k → IDen j
  | .u8, .u8, x => x | .u16, .u16, x => x | .u32, .u32, x => x | .u64, .u64, x => x
  | .u32, .i32, x => x | .i32, .u32, x => x | .i32, .i32, x => x
  | .u8, .u16, x => x.setWidth 16 | .u8, .u32, x => x.setWidth 32 | .u8, .u64, x => x.setWidth 64 | .u16, .u32, x => x.setWidth 32 | .u32, .u64, x => x.setWidth 64
  | .u64, .u32, x => x.setWidth 32 | .u64, .u8, x => x.setWidth 8 | .u32, .u8, x => x.setWidth 8 | .u32, .u16, x => x.setWidth 16
  | .u8, .i64, x => (x.toNat : Int) | .u16, .i64, x => (x.toNat : Int) | .u32, .i64, x => (x.toNat : Int) | .u64, .i64, x => x.toInt
  | .i32, .i64, x => x.toInt | .i32, .u64, x => x.signExtend 64
  | k, j, x => ofI j (toI k x)

theorem ofInt_toNat' {n : Nat} (x : BitVec n) : BitVec.ofInt n (x.toNat : Int) = x := by simp
theorem ofInt_toInt' {n : Nat} (x : BitVec n) : BitVec.ofInt n x.toInt = x := by simp
theorem toI_add (k : IntKind) (x y : IDen k) : k.wrap (toI k x + toI k y) = toI k (add k x y) := by
  rw [← toI_ofI]; congr 1
  cases k <;> simp only [toI, add, on2, ofI, w64] <;> simp [BitVec.ofInt_add, BitVec.add_comm]
theorem toI_sub (k : IntKind) (x y : IDen k) : k.wrap (toI k x - toI k y) = toI k (sub k x y) := by
  rw [← toI_ofI]; congr 1
  cases k <;> simp only [toI, sub, on2, ofI, w64] <;> simp [Int.sub_eq_add_neg, BitVec.ofInt_add, BitVec.ofInt_neg, BitVec.sub_eq_add_neg]
theorem toI_mul (k : IntKind) (x y : IDen k) : k.wrap (toI k x * toI k y) = toI k (mul k x y) := by
  rw [← toI_ofI]; congr 1
  cases k <;> simp only [toI, mul, on2, ofI, w64] <;> simp [BitVec.ofInt_mul, BitVec.mul_comm]
theorem toI_and (k : IntKind) (x y : IDen k) : k.wrap ((BitVec.ofInt k.bits (toI k x) &&& BitVec.ofInt k.bits (toI k y)).toNat) = toI k (andI k x y) := by
  rw [← toI_ofI]; congr 1
  cases k <;> simp only [toI, andI, on2, ofI, w64, bit64, IntKind.bits, ofInt_toNat', ofInt_toInt'] <;> rfl
theorem toI_or (k : IntKind) (x y : IDen k) : k.wrap ((BitVec.ofInt k.bits (toI k x) ||| BitVec.ofInt k.bits (toI k y)).toNat) = toI k (orI k x y) := by
  rw [← toI_ofI]; congr 1
  cases k <;> simp only [toI, orI, on2, ofI, w64, bit64, IntKind.bits, ofInt_toNat', ofInt_toInt'] <;> rfl
theorem toI_xor (k : IntKind) (x y : IDen k) : k.wrap ((BitVec.ofInt k.bits (toI k x) ^^^ BitVec.ofInt k.bits (toI k y)).toNat) = toI k (xorI k x y) := by
  rw [← toI_ofI]; congr 1
  cases k <;> simp only [toI, xorI, on2, ofI, w64, bit64, IntKind.bits, ofInt_toNat', ofInt_toInt'] <;> rfl
theorem toI_andNot (k : IntKind) (x y : IDen k) : k.wrap ((BitVec.ofInt k.bits (toI k x) &&& ~~~BitVec.ofInt k.bits (toI k y)).toNat) = toI k (andNot k x y) := by
  rw [← toI_ofI]; congr 1
  cases k <;> simp only [toI, andNot, on2, ofI, w64, bit64, IntKind.bits, ofInt_toNat', ofInt_toInt'] <;> rfl
theorem allOnes_xor' {n : Nat} (x : BitVec n) : BitVec.allOnes n ^^^ x = ~~~x := by
  apply BitVec.eq_of_getLsbD_eq; intro i hi; simp [hi]
theorem notU {n : Nat} (c : Int) (hc : BitVec.ofInt n c = BitVec.allOnes n) (x : BitVec n) : BitVec.ofInt n (((BitVec.ofInt n c ^^^ BitVec.ofInt n (x.toNat : Int)).toNat : Nat) : Int) = ~~~x := by
  rw [ofInt_toNat', ofInt_toNat', hc, allOnes_xor']
theorem notS {n : Nat} (c : Int) (hc : BitVec.ofInt n c = BitVec.allOnes n) (x : BitVec n) : BitVec.ofInt n (((BitVec.ofInt n c ^^^ BitVec.ofInt n x.toInt).toNat : Nat) : Int) = ~~~x := by
  rw [ofInt_toNat', ofInt_toInt', hc, allOnes_xor']
theorem toI_not (k : IntKind) (x : IDen k) : k.wrap ((BitVec.ofInt k.bits (if k.signed then -1 else k.max) ^^^ BitVec.ofInt k.bits (toI k x)).toNat) = toI k (notI k x) := by
  rw [← toI_ofI]; congr 1
  cases k <;> first | rfl | exact notU _ (by decide) x | exact notS _ (by decide) x
theorem quoU {n : Nat} (x y : BitVec n) : BitVec.ofInt n ((x.toNat : Int).tdiv (y.toNat : Int)) = x / y := by
  rw [show (x.toNat : Int).tdiv (y.toNat : Int) = ((x.toNat / y.toNat : Nat) : Int) by simp, BitVec.ofInt_natCast]
  apply BitVec.eq_of_toNat_eq
  rw [BitVec.toNat_ofNat, BitVec.toNat_udiv]
  exact Nat.mod_eq_of_lt (Nat.lt_of_le_of_lt (Nat.div_le_self _ _) x.isLt)
theorem quoS {n : Nat} (x y : BitVec n) : BitVec.ofInt n (x.toInt.tdiv y.toInt) = x.sdiv y := by
  apply BitVec.eq_of_toInt_eq
  rw [BitVec.toInt_ofInt, BitVec.toInt_sdiv]
theorem toI_quo (k : IntKind) (x y : IDen k) : k.wrap ((toI k x).tdiv (toI k y)) = toI k (quo k x y) := by
  rw [← toI_ofI]; congr 1
  cases k <;> simp only [toI, quo, ofI, w64] <;> first | exact quoU _ _ | exact quoS _ _ | rfl
theorem remU {n : Nat} (x y : BitVec n) : (x.toNat : Int).tmod (y.toNat : Int) = ((x % y).toNat : Int) := by
  rw [BitVec.toNat_umod, Int.tmod_eq_emod_of_nonneg (by omega)]; simp
theorem toI_rem (k : IntKind) (x y : IDen k) : (toI k x).tmod (toI k y) = toI k (rem k x y) := by
  cases k <;> simp only [toI, rem] <;> first | exact remU _ _ | exact (BitVec.toInt_srem _ _).symm | rfl
theorem toI_inj {k : IntKind} {x y : IDen k} (h : toI k x = toI k y) : x = y := by
  cases k <;> simp only [toI] at h <;> first | exact h | exact BitVec.eq_of_toInt_eq h | exact BitVec.eq_of_toNat_eq (by exact_mod_cast h)
theorem toI_eqI (k : IntKind) (x y : IDen k) : (toI k x == toI k y) = eqI k x y := by
  have h : (toI k x == toI k y) = true ↔ eqI k x y = true := by
    rw [beq_iff_eq]
    have h2 : eqI k x y = true ↔ x = y := by cases k <;> simp [eqI]
    rw [h2]; exact ⟨toI_inj, fun h => by rw [h]⟩
  exact Bool.eq_iff_iff.2 h
theorem eqI_iff {k : IntKind} {x y : IDen k} : eqI k x y = true ↔ x = y := by cases k <;> simp [eqI]
theorem toI_isZ (k : IntKind) (x : IDen k) : toI k x = 0 ↔ isZ k x = true := by
  have h0 : toI k (ofI k 0) = 0 := toI_zero k
  have h1 : isZ k x = true ↔ x = ofI k 0 := by cases k <;> simp only [isZ, ofI, decide_eq_true_eq] <;> rfl
  rw [h1]
  exact ⟨fun h => toI_inj (h.trans h0.symm), fun h => by rw [h, h0]⟩
theorem ltI_iff (k : IntKind) (x y : IDen k) : ltI k x y = true ↔ toI k x < toI k y := by
  cases k <;> simp [toI, ltI, BitVec.slt, BitVec.lt_def]
theorem leI_iff (k : IntKind) (x y : IDen k) : leI k x y = true ↔ toI k x ≤ toI k y := by
  cases k <;> simp [toI, leI, BitVec.sle, BitVec.le_def]
theorem toI_ltI (k : IntKind) (x y : IDen k) : decide (toI k x < toI k y) = ltI k x y := by
  rw [Bool.eq_iff_iff, ltI_iff, decide_eq_true_eq]
theorem toI_leI (k : IntKind) (x y : IDen k) : decide (toI k x ≤ toI k y) = leI k x y := by
  rw [Bool.eq_iff_iff, leI_iff, decide_eq_true_eq]
theorem toI_cnt (k : IntKind) (x : IDen k) : (toI k x).toNat = cnt k x := by
  cases k <;> simp [toI, cnt]
theorem toI_cntOk (k : IntKind) (x : IDen k) (h : cntOk k x = true) : ¬ toI k x < 0 := by
  cases k <;> simp [toI, cntOk] at h ⊢ <;> omega
theorem wrap64_bv (n : Int) : IntKind.i64.wrap n = (BitVec.ofInt 64 n).toInt := by
  simp only [IntKind.wrap, IntKind.signed, IntKind.bits, BitVec.toInt_ofInt, Int.bmod]
  simp
  split <;> split <;> omega
theorem wid {n m : Nat} (x : BitVec n) : BitVec.ofInt m (x.toNat : Int) = BitVec.setWidth m x := by
  rw [BitVec.ofInt_natCast, BitVec.ofNat_toNat]
theorem toI_cv (k j : IntKind) (x : IDen k) : j.wrap (toI k x) = toI j (cv k j x) := by
  rw [← toI_ofI]; congr 1
  cases k <;> cases j <;> simp only [toI, ofI, cv, ofInt_toNat', ofInt_toInt'] <;> first
    | rfl
    | exact wid x
    | (have := x.isLt; exact w64_id (by omega) (by omega))
    | (have h1 := BitVec.toInt_lt (x := x); have h2 := BitVec.le_toInt x; exact w64_id (by omega) (by omega))
    | (rw [wrap64_bv, ofInt_toNat'])
theorem shlU {n : Nat} (x : BitVec n) (c : Nat) : BitVec.ofInt n ((x.toNat : Int) * 2 ^ min c n) = x <<< c := by
  have h : (x.toNat : Int) * 2 ^ min c n = ((x.toNat * 2 ^ min c n : Nat) : Int) := by push_cast; rfl
  rw [h, BitVec.ofInt_natCast]
  apply BitVec.eq_of_toNat_eq
  rw [BitVec.toNat_ofNat, BitVec.toNat_shiftLeft, Nat.shiftLeft_eq]
  rcases Nat.le_total c n with hc | hc
  · rw [Nat.min_eq_left hc]
  · rw [Nat.min_eq_right hc, Nat.mul_mod_left]
    obtain ⟨d, rfl⟩ := Nat.exists_eq_add_of_le hc
    rw [Nat.pow_add, ← Nat.mul_assoc, Nat.mul_comm (x.toNat * 2 ^ n), ← Nat.mul_assoc, Nat.mul_mod_left]
theorem shlS {n : Nat} (x : BitVec n) (c : Nat) : BitVec.ofInt n (x.toInt * 2 ^ min c n) = x <<< c := by
  rw [← shlU]
  rw [BitVec.ofInt_mul, ofInt_toInt', BitVec.ofInt_mul, ofInt_toNat']
theorem toI_shl (k : IntKind) (x : IDen k) (c : Nat) : k.wrap (toI k x * 2 ^ min c k.bits) = toI k (shl k x c) := by
  rw [← toI_ofI]; congr 1
  cases k <;> simp only [toI, shl, ofI, IntKind.bits] <;> first | rfl | exact shlU x c | exact shlS x c
theorem div_min {a n c : Nat} (h : a < 2 ^ n) : a / 2 ^ min c n = a / 2 ^ c := by
  rcases Nat.le_total c n with hc | hc
  · rw [Nat.min_eq_left hc]
  · rw [Nat.min_eq_right hc, Nat.div_eq_of_lt h, Nat.div_eq_of_lt (Nat.lt_of_lt_of_le h (Nat.pow_le_pow_right (by omega) hc))]
theorem shrU {n : Nat} (x : BitVec n) (c : Nat) : (x.toNat : Int).fdiv (2 ^ min c n) = ((x >>> c).toNat : Int) := by
  rw [BitVec.toNat_ushiftRight, Nat.shiftRight_eq_div_pow, ← div_min x.isLt (c := c), Int.fdiv_eq_ediv_of_nonneg _ (Int.le_of_lt (Int.pow_pos (by omega)))]
  push_cast; rfl
theorem shrS {n : Nat} (x : BitVec n) (c : Nat) : x.toInt.fdiv (2 ^ min c n) = (x.sshiftRight c).toInt := by
  rw [BitVec.toInt_sshiftRight, Int.shiftRight_eq_div_pow, Int.fdiv_eq_ediv_of_nonneg _ (Int.le_of_lt (Int.pow_pos (by omega)))]
  rcases Nat.le_total c n with hc | hc
  · rw [Nat.min_eq_left hc]; push_cast; rfl
  · rw [Nat.min_eq_right hc]
    have h1 := BitVec.two_mul_toInt_lt (x := x)
    have h2 := BitVec.le_two_mul_toInt (x := x)
    have hp : (2 : Int) ^ n ≤ 2 ^ c := by exact_mod_cast Nat.pow_le_pow_right (by omega) hc
    have hp1 : (1 : Int) ≤ 2 ^ n := by exact_mod_cast Nat.one_le_two_pow
    push_cast
    generalize (2 : Int) ^ n = A at *
    generalize (2 : Int) ^ c = B at *
    rcases Int.lt_or_le x.toInt 0 with h | h
    · rw [Int.ediv_eq_neg_one_of_neg_of_le h (by omega), Int.ediv_eq_neg_one_of_neg_of_le h (by omega)]
    · rw [Int.ediv_eq_zero_of_lt h (by omega), Int.ediv_eq_zero_of_lt h (by omega)]
theorem toI_shr (k : IntKind) (x : IDen k) (c : Nat) : (toI k x).fdiv (2 ^ min c k.bits) = toI k (shr k x c) := by
  cases k <;> simp only [toI, shr, IntKind.bits] <;> first | rfl | exact shrU x c | exact shrS x c
end Go.Sy
namespace Go.Sy
open Go Go.RowKit

def castD {a b : Ty} (h : Ty.beq a b = true) (x : Den a) : Den b := Ty.beq_eq h ▸ x
theorem castD_rep {w : World} {ok : Nat → Prop} {a b : Ty} (h : Ty.beq a b = true) {x : Den a} {cs : List Value} (hr : RepC w ok a x cs) : RepC w ok b (castD h x) cs := by
  have e := Ty.beq_eq h
  subst e; exact hr
theorem castD_vrep {w : World} {ok : Nat → Prop} {a b : Ty} (h : Ty.beq a b = true) {x : Den a} {u : Value} (hr : VRep w ok a x u) : VRep w ok b (castD h x) u := by
  have e := Ty.beq_eq h
  subst e; exact hr
def castI {k j : IntKind} (h : kbeq k j = true) (x : IDen k) : IDen j := kbeq_eq h ▸ x
theorem castI_toI {k j : IntKind} (h : kbeq k j = true) (x : IDen k) : toI j (castI h x) = toI k x := by
  have e := kbeq_eq h
  subst e; rfl

/-- A value as plain data of type t. -/
def asV (t : Ty) : AV → Option (Den t)
  | .v u x => if h : Ty.beq u t = true then some (castD h x) else none
  | .kb b => match t with
    | .bool => some b
    | _ => none
  | _ => none
theorem asV_ok {c : Cx} {t : Ty} {av : AV} {x : Den t} {u : Value} (h : asV t av = some x) (hr : AVL c av [u]) : VRep c.w c.okb t x u := by
  cases av with
  | v s y =>
    simp only [asV] at h
    split at h
    · rename_i e
      cases h
      obtain ⟨u', hu, hr⟩ := hr
      cases hu
      exact castD_vrep e hr
    · cases h
  | kb b =>
    cases t <;> simp [asV] at h
    subst h
    have hr : [u] = [Value.bool b] := hr
    cases hr; rfl
  | _ => simp [asV] at h
theorem VRep_int {w : World} {ok : Nat → Prop} {k : IntKind} {x : IDen k} {u : Value} (h : VRep w ok (.int k) x u) : u = .int k (toI k x) := by
  have h : [u] = [Value.int k (toI k x)] := h
  cases h; rfl
theorem VRep_bool {w : World} {ok : Nat → Prop} {x : Bool} {u : Value} (h : VRep w ok .bool x u) : u = .bool x := by
  have h : [u] = [Value.bool x] := h
  cases h; rfl
theorem VRep_str {w : World} {ok : Nat → Prop} {x : List (BitVec 8)} {u : Value} (h : VRep w ok .str x u) : u = .string (bstr x) := by
  have h : [u] = [Value.string (bstr x)] := h
  cases h; rfl

/-- The order of strings. -/
def ltS : List (BitVec 8) → List (BitVec 8) → Bool
  | _, [] => false
  | [], _ :: _ => true
  | a :: x, b :: y => decide (a < b) || (decide (a = b) && ltS x y)
theorem ltS_ok : ∀ (x y : List (BitVec 8)), Op.bytesLess (x.map UInt8.ofBitVec) (y.map UInt8.ofBitVec) = ltS x y
  | _, [] => by simp [ltS, Op.bytesLess]
  | [], _ :: _ => by simp [ltS, Op.bytesLess]
  | a :: x, b :: y => by
    simp only [List.map_cons, Op.bytesLess, ltS, ltS_ok x y]
    congr 1
    congr 1
    rw [Bool.eq_iff_iff]; simp
theorem bstr_toList (x : List (BitVec 8)) : (bstr x).toList = x.map UInt8.ofBitVec := by rw [ByteArray.toList_eq]; simp [bstr]
theorem map_ofBitVec_inj {x y : List (BitVec 8)} : x.map UInt8.ofBitVec = y.map UInt8.ofBitVec ↔ x = y := by
  constructor
  · intro h
    have := congrArg (List.map UInt8.toBitVec) h
    simpa [Function.comp_def] using this
  · intro h; rw [h]
theorem bstr_eq (x y : List (BitVec 8)) : ((bstr x).toList == (bstr y).toList) = decide (x = y) := by
  rw [bstr_toList, bstr_toList, Bool.eq_iff_iff, beq_iff_eq, decide_eq_true_eq, map_ofBitVec_inj]
theorem bstr_append (x y : List (BitVec 8)) : bstr x ++ bstr y = bstr (x ++ y) := by
  simp only [bstr, ByteArray.mk_append_mk, List.map_append]

/-- How long a string or a slice may become here. -/
def room (n : Nat) : Bool := decide (n ≤ 140737488355328)

/-- A number's step: whether Go doesn't panic, and the result. -/
def binI (op : BinOp) (k : IntKind) (a b : IDen k) : Option (Bool × AV) :=
  match op with
  | .add => some (true, .v (.int k) (add k a b))
  | .sub => some (true, .v (.int k) (sub k a b))
  | .mul => some (true, .v (.int k) (mul k a b))
  | .quo => some (!isZ k b, .v (.int k) (quo k a b))
  | .rem => some (!isZ k b, .v (.int k) (rem k a b))
  | .and => some (true, .v (.int k) (andI k a b))
  | .or => some (true, .v (.int k) (orI k a b))
  | .xor => some (true, .v (.int k) (xorI k a b))
  | .andNot => some (true, .v (.int k) (andNot k a b))
  | .eql => some (true, .v .bool (eqI k a b))
  | .neq => some (true, .v .bool (!eqI k a b))
  | .lss => some (true, .v .bool (ltI k a b))
  | .leq => some (true, .v .bool (leI k a b))
  | .gtr => some (true, .v .bool (ltI k b a))
  | .geq => some (true, .v .bool (leI k b a))
  | _ => none
def binSh (op : BinOp) (k j : IntKind) (a : IDen k) (b : IDen j) : Option (Bool × AV) :=
  match op with
  | .shl => some (cntOk j b, .v (.int k) (shl k a (cnt j b)))
  | .shr => some (cntOk j b, .v (.int k) (shr k a (cnt j b)))
  | _ => none
def binS (op : BinOp) (a b : List (BitVec 8)) : Option (Bool × AV) :=
  match op with
  | .add => some (room (a.length + b.length), .v .str (a ++ b))
  | .eql => some (true, .v .bool (decide (a = b)))
  | .neq => some (true, .v .bool (!decide (a = b)))
  | .lss => some (true, .v .bool (ltS a b))
  | .leq => some (true, .v .bool (ltS a b || decide (a = b)))
  | .gtr => some (true, .v .bool (!(ltS a b || decide (a = b))))
  | .geq => some (true, .v .bool (!ltS a b))
  | _ => none
def binB (op : BinOp) (a b : Bool) : Option (Bool × AV) :=
  match op with
  | .eql => some (true, .v .bool (a == b))
  | .neq => some (true, .v .bool (!(a == b)))
  | _ => none
def AV.norm : AV → AV
  | .kb b => .v .bool b
  | a => a
theorem AVL.norm {c : Cx} {av : AV} {vs : List Value} (h : AVL c av vs) : AVL c av.norm vs := by
  cases av <;> first | exact h | (rw [show vs = _ from h]; exact ⟨_, rfl, rfl⟩)
/-- An operation on two values, but for structs. -/
def binA (op : BinOp) (x y : AV) : Option (Bool × AV) :=
  match x.norm, y.norm with
  | .v (.int k) a, .v (.int j) b => (match op with
    | .shl => binSh .shl k j a b
    | .shr => binSh .shr k j a b
    | op => if h : kbeq j k = true then binI op k a (castI h b) else none)
  | .v .str a, .v .str b => binS op a b
  | .v .bool a, .v .bool b => binB op a b
  | _, _ => none

theorem AVL_v {c : Cx} {t : Ty} {x : Den t} {u : Value} (h : VRep c.w c.okb t x u) : AVL c (.v t x) [u] := ⟨u, rfl, h⟩
theorem vint (c : Cx) (k : IntKind) (x : IDen k) (n : Int) (h : n = toI k x) : AVL c (.v (.int k) x) [.int k n] := by subst h; exact ⟨_, rfl, rfl⟩
theorem vbool (c : Cx) (x y : Bool) (h : y = x) : AVL c (.v .bool x) [.bool y] := by subst h; exact ⟨_, rfl, rfl⟩
theorem vstr (c : Cx) (x : List (BitVec 8)) (s : ByteArray) (h : s = bstr x) : AVL c (.v .str x) [.string s] := by subst h; exact ⟨_, rfl, rfl⟩

theorem not_decide_lt {a b : Int} : (!decide (a < b)) = decide (b ≤ a) := by rw [Bool.eq_iff_iff]; simp
theorem binI_ok {c : Cx} {op : BinOp} {k : IntKind} {a b : IDen k} {g : Bool} {av : AV} (h : binI op k a b = some (g, av)) (hg : g = true) (t : TypeId) (w : World) :
    ∃ v, (binOp op t (.int k (toI k a)) (.int k (toI k b))).run c.P w = .ok v w ∧ AVL c av [v] := by
  cases op <;> simp only [binI, Option.some.injEq, Prod.mk.injEq, reduceCtorEq] at h <;> obtain ⟨h1, rfl⟩ := h <;> simp only [binOp, ne_eq, not_true_eq_false, if_false]
  · exact ⟨_, rfl, vint c k _ _ (toI_add k a b)⟩
  · exact ⟨_, rfl, vint c k _ _ (toI_sub k a b)⟩
  · exact ⟨_, rfl, vint c k _ _ (toI_mul k a b)⟩
  · have hz : ¬ toI k b = 0 := fun h => by rw [(toI_isZ k b).1 h] at h1; simp [hg] at h1
    simp only [Op.intDiv, if_neg hz]
    exact ⟨_, rfl, vint c k _ _ (toI_quo k a b)⟩
  · have hz : ¬ toI k b = 0 := fun h => by rw [(toI_isZ k b).1 h] at h1; simp [hg] at h1
    simp only [Op.intDiv, if_neg hz]
    exact ⟨_, rfl, vint c k _ _ (toI_rem k a b)⟩
  · exact ⟨_, rfl, vint c k _ _ (toI_and k a b)⟩
  · exact ⟨_, rfl, vint c k _ _ (toI_or k a b)⟩
  · exact ⟨_, rfl, vint c k _ _ (toI_xor k a b)⟩
  · exact ⟨_, rfl, vint c k _ _ (toI_andNot k a b)⟩
  · exact ⟨_, rfl, vbool c _ _ (toI_eqI k a b)⟩
  · exact ⟨_, rfl, vbool c _ _ (by rw [bne, toI_eqI k a b])⟩
  · exact ⟨_, rfl, vbool c _ _ (toI_ltI k a b)⟩
  · exact ⟨_, rfl, vbool c _ _ (toI_leI k a b)⟩
  · exact ⟨_, rfl, vbool c _ _ (toI_ltI k b a)⟩
  · exact ⟨_, rfl, vbool c _ _ (toI_leI k b a)⟩
theorem binSh_ok {c : Cx} {op : BinOp} {k j : IntKind} {a : IDen k} {b : IDen j} {g : Bool} {av : AV} (h : binSh op k j a b = some (g, av)) (hg : g = true) (t : TypeId) (w : World) :
    ∃ v, (binOp op t (.int k (toI k a)) (.int j (toI j b))).run c.P w = .ok v w ∧ AVL c av [v] := by
  cases op <;> simp only [binSh, Option.some.injEq, Prod.mk.injEq, reduceCtorEq] at h <;> obtain ⟨h1, rfl⟩ := h <;> simp only [binOp, Op.shift, if_neg (toI_cntOk j b (h1.trans hg)), toI_cnt]
  · exact ⟨_, rfl, vint c k _ _ (toI_shl k a _)⟩
  · exact ⟨_, rfl, vint c k _ _ (toI_shr k a _)⟩
theorem room_le {n : Nat} (h : room n = true) : n ≤ 140737488355328 := by simpa [room] using h
theorem binS_ok {c : Cx} {op : BinOp} {a b : List (BitVec 8)} {g : Bool} {av : AV} (h : binS op a b = some (g, av)) (hg : g = true) (t : TypeId) (w : World) :
    ∃ v, (binOp op t (.string (bstr a)) (.string (bstr b))).run c.P w = .ok v w ∧ AVL c av [v] := by
  cases op <;> simp only [binS, Option.some.injEq, Prod.mk.injEq, reduceCtorEq] at h <;> obtain ⟨h1, rfl⟩ := h <;> simp only [binOp]
  · have := room_le (h1.trans hg)
    refine ⟨_, run_string_add_sum (P := c.P) (w := w) _ _ (by rw [bstr_size, bstr_size]; omega), vstr c _ _ (bstr_append a b)⟩
  · exact ⟨_, rfl, vbool c _ _ (bstr_eq a b)⟩
  · exact ⟨_, rfl, vbool c _ _ (by rw [bstr_eq a b])⟩
  · exact ⟨_, rfl, vbool c _ _ (by rw [bstr_toList, bstr_toList, ltS_ok])⟩
  · exact ⟨_, rfl, vbool c _ _ (by rw [bstr_eq, bstr_toList, bstr_toList, ltS_ok])⟩
  · exact ⟨_, rfl, vbool c _ _ (by rw [bstr_eq, bstr_toList, bstr_toList, ltS_ok])⟩
  · exact ⟨_, rfl, vbool c _ _ (by rw [bstr_toList, bstr_toList, ltS_ok])⟩
end Go.Sy
namespace Go.Sy
open Go Go.RowKit

/-- The call's own objects, and which of them were made or turned. -/
structure Hp where
  objs : List Ob
  dO : List Nat
def setX (l : List Ob) (i : Nat) (x : Ob) : List Ob := if i < l.length then l.set i x else l ++ [x]
def Hp.set (h : Hp) (i : Nat) (x : Ob) : Hp := ⟨setX h.objs i x, i :: h.dO⟩
def Hp.get (h : Hp) (i : Nat) : Ob := h.objs.getD i .free
theorem getD_setX {l : List Ob} {i j : Nat} {x : Ob} (h : i ≤ l.length) : (setX l i x).getD j .free = if j = i then x else l.getD j .free := by
  unfold setX
  split
  · rename_i hl
    simp only [List.getD_eq_getElem?_getD, List.getElem?_set]
    by_cases e : i = j
    · subst e; simp [hl]
    · rw [if_neg e, if_neg (fun h => e h.symm)]
  · have e : i = l.length := by omega
    subst e
    simp only [List.getD_eq_getElem?_getD]
    by_cases e : j = l.length
    · subst e; simp
    · rw [if_neg e]
      rcases Nat.lt_or_ge j l.length with h1 | h1
      · rw [List.getElem?_append_left h1]
      · rw [List.getElem?_append_right h1, List.getElem?_eq_none (by simp; omega), List.getElem?_eq_none h1]
theorem len_setX {l : List Ob} {i : Nat} {x : Ob} : l.length ≤ (setX l i x).length := by
  unfold setX; split <;> simp
/-- What is not noted as turned is as it was. -/
structure Hp.Agr (h k : Hp) : Prop where
  len : h.objs.length ≤ k.objs.length
  d : ∀ o, h.dO.contains o = true → k.dO.contains o = true
  same : ∀ o, o < h.objs.length → k.dO.contains o = false → k.get o = h.get o
theorem Hp.Agr.refl (h : Hp) : h.Agr h := ⟨Nat.le_refl _, fun _ h => h, fun _ _ _ => rfl⟩
theorem Hp.Agr.trans {a b c : Hp} (h : a.Agr b) (k : b.Agr c) : a.Agr c :=
  ⟨Nat.le_trans h.len k.len, fun o ho => k.d o (h.d o ho), fun o ho hd => (k.same o (Nat.lt_of_lt_of_le ho h.len) hd).trans (h.same o ho (by
    cases hb : b.dO.contains o with
    | false => rfl
    | true => rw [k.d o hb] at hd; cases hd))⟩
theorem Hp.Agr.set (h : Hp) (i : Nat) (x : Ob) (hi : i ≤ h.objs.length) : h.Agr (h.set i x) :=
  ⟨len_setX, fun o ho => by simp [Hp.set] at ho ⊢; exact .inr ho, fun o ho hd => by
    have : o ≠ i := fun e => by subst e; simp [Hp.set] at hd
    simp only [Hp.get, Hp.set]; rw [getD_setX hi, if_neg this]⟩

/-- A value as plain data that will not be turned any more: a row of the call's own is frozen. -/
def take0 (h : Hp) (t : Ty) : AV → Option (Den t × Hp)
  | .nils => match t with
    | .sl _ => some ([], h)
    | _ => none
  | .rsl o => match t, h.get o with
    | .sl u, .row e s l own => if hb : Ty.beq s u = true then some (castD (a := .sl s) (b := .sl u) hb l, if own then h.set o (.row e s l false) else h) else none
    | _, _ => none
  | av => (asV t av).map fun x => (x, h)
/-- The cells of a struct value as plain data. -/
def takeC (h : Hp) : Ty → AV → Option (GV × Hp)
  | _, .cl u x => some (⟨u, x⟩, h)
  | .cons s t, .cat a b => match takeC h s a with
    | some (x, h1) => match takeC h1 t b with
      | some (y, h2) => some (⟨.cons x.t y.t, (x.x, y.x)⟩, h2)
      | none => none
    | none => none
  | t, av => if t.isAgg = false then (match av with
    | .rsl o => (take0 h t (.rsl o)).map fun r => (⟨t, r.1⟩, r.2)
    | .nils => (take0 h t .nils).map fun r => (⟨t, r.1⟩, r.2)
    | _ => none) else none
def take (h : Hp) (t : Ty) : AV → Option (Den t × Hp)
  | .ag u a => if Ty.beq u t = true then (match takeC h u a with
    | some (g, h1) => if hb : Ty.beq g.t t = true then some (castD hb g.x, h1) else none
    | none => none) else none
  | av => take0 h t av

/-- One object is turned; no block is. -/
theorem Cx.turn {E : Env} {c : Cx} (h : c.Ok E) (o : Nat) (ob : Ob) (ho : o < c.objs.length) (hl : (c.objs.getD o .free).leads ob) (_hnf : (c.objs.getD o .free matches .free) = false)
    (hm : ob.mut = true → (c.objs.getD o .free).mut = true)
    (hr : ∀ c' : Cx, c.Evol c' → c'.w = c.w → ORel c' (c.φ o) ob)
    (hf : ∀ e t l, ob = .row e t l false → (c.objs.getD o .free).mut = true ∨ ∃ e' t' l', c.objs.getD o .free = .row e' t' l' false) :
    ({ c with objs := setX c.objs o ob } : Cx).Ok E ∧ c.Evol { c with objs := setX c.objs o ob } := by
  have hg : ∀ j, (setX c.objs o ob).getD j .free = if j = o then ob else c.objs.getD j .free := fun j => getD_setX (by omega)
  have hoo : (setX c.objs o ob).getD o .free = ob := by rw [hg, if_pos rfl]
  refine Cx.step (c' := { c with objs := setX c.objs o ob }) h o rfl rfl rfl rfl rfl rfl (Nat.le_refl _) (fun j hj => ?_) (fun _ _ => rfl) ?_ (fun _ => rfl) (fun _ _ _ => rfl) (fun _ _ _ => rfl) ?_ ?_ ?_
  · show (setX c.objs o ob).getD j .free = _; rw [hg, if_neg hj]
  · show (c.objs.getD o .free).leads ((setX c.objs o ob).getD o .free); rw [hoo]; exact hl
  · show ((setX c.objs o ob).getD o .free).mut = true → _
    rw [hoo]; exact fun hmm b hb => .inl ⟨hm hmm, hb⟩
  · intro hev; show ORel _ (c.φ o) ((setX c.objs o ob).getD o .free); rw [hoo]; exact hr _ hev rfl
  · intro e t l he b hb
    have he : (setX c.objs o ob).getD o .free = .row e t l false := he
    rw [hoo] at he
    rcases hf e t l he with h1 | ⟨e', t', l', h1⟩
    · exact .inl ⟨h1, hb⟩
    · exact .inr (h.froz o e' t' l' h1 b hb)

/-- The context with other objects. -/
abbrev Cx.at (c : Cx) (h : Hp) : Cx := { c with objs := h.objs }

theorem row_vrep {c : Cx} {u : Value} {e : TypeId} {t : Ty} {l : List (Den t)} {own : Bool} (ho : ORel c u (.row e t l own)) (hb : ∀ b, blkOf u = some b → c.okb b) : VRep c.w c.okb (.sl t) l u := by
  rcases ho with ⟨a, rfl, rfl⟩ | ⟨b, cap, xs, rfl, hc, h1, h2⟩
  · exact ⟨a, 0, rfl, Nat.le_refl _, .inl rfl⟩
  · have hcap : l.length ≤ cap := by
      rcases h1.2 with ⟨h3, _⟩ | ⟨g, cap', cur, h3, _, _, h6, _⟩
      · cases h3
      · cases h3; exact h6
    refine ⟨some ⟨b, 0, none⟩, cap, rfl, hcap, ?_⟩
    refine .inr ⟨b, 0, rfl, hb b (by simp [blkOf]; omega), fun i x hx => ?_⟩
    refine ⟨(xs.drop (i * t.size)).take t.size, fun j v hj => ?_, h2 i x hx⟩
    rw [List.getElem?_take] at hj
    split at hj
    · rw [List.getElem?_drop] at hj
      have := h1.cells (g := b) (by simp [Value.ownBlock]) _ _ hj
      simpa [Addr.add_lit] using this
    · cases hj
theorem take0_ok {E : Env} {c : Cx} {h h' : Hp} {t : Ty} {av : AV} {x : Den t} {u : Value} (ho : c.Ok E) (hh : c.objs = h.objs) (ht : take0 h t av = some (x, h')) (hr : AVL c av [u]) :
    (c.at h').Ok E ∧ c.Evol (c.at h') ∧ h.Agr h' ∧ VRep c.w (c.at h').okb t x u := by
  have same : ∀ (hx : h' = h) (hv : VRep c.w c.okb t x u), (c.at h').Ok E ∧ c.Evol (c.at h') ∧ h.Agr h' ∧ VRep c.w (c.at h').okb t x u := by
    intro hx hv
    subst hx
    have : c.at h' = c := by cases c; subst hh; rfl
    rw [this]
    exact ⟨ho, Cx.Evol.refl c, Hp.Agr.refl h', hv⟩
  cases av with
  | nils =>
    cases t <;> simp [take0] at ht
    obtain ⟨rfl, rfl⟩ := ht
    have hr : [u] = [Value.slice none 0 0] := hr
    cases hr
    exact same rfl ⟨none, 0, rfl, Nat.le_refl _, .inl rfl⟩
  | rsl o =>
    cases t <;> simp only [take0, reduceCtorEq] at ht
    rename_i s
    cases he : h.get o <;> rw [he] at ht <;> simp only [reduceCtorEq] at ht
    · rename_i e s' l own
      split at ht
      · rename_i hb
        simp only [Option.some.injEq, Prod.mk.injEq] at ht
        obtain ⟨hx, h2⟩ := ht
        have he' : c.objs.getD o .free = .row e s' l own := by rw [hh]; exact he
        obtain ⟨u', hu, _, hr⟩ := hr
        cases hu
        unfold RslRel at hr
        rw [he'] at hr
        subst hr
        have hor := ho.objs o
        rw [he'] at hor
        cases own with
        | true =>
          have hlt : o < c.objs.length := by
            rcases Nat.lt_or_ge o c.objs.length with h1 | h1
            · exact h1
            · rw [List.getD_eq_getElem?_getD, List.getElem?_eq_none h1] at he'; cases he'
          obtain ⟨hok, hev⟩ := Cx.turn ho o (.row e s' l false) hlt (by rw [he']; exact ⟨rfl, rfl, rfl⟩) (by rw [he']) (by intro hm; cases hm)
            (fun c' hc' hw => by have := ORel.evol hc' (u := c.φ o) (fun b _ => by rw [hw]) hor; exact this) (fun _ _ _ _ => .inl (by rw [he']; rfl))
          have h2' : h.set o (.row e s' l false) = h' := by simpa using h2
          subst h2'
          have hat : c.at (h.set o (.row e s' l false)) = { c with objs := setX c.objs o (.row e s' l false) } := by rw [hh]; rfl
          rw [hat]
          refine ⟨hok, hev, Hp.Agr.set h o _ (by rw [← hh]; omega), ?_⟩
          rw [← hx]
          refine castD_vrep hb (a := .sl s') (b := .sl s) ?_
          have h3 := hok.objs o
          have h4 : (setX c.objs o (.row e s' l false)).getD o .free = .row e s' l false := by rw [getD_setX (by omega), if_pos rfl]
          have h3 : ORel _ (c.φ o) ((setX c.objs o (.row e s' l false)).getD o .free) := h3
          rw [h4] at h3
          exact row_vrep (c := { c with objs := setX c.objs o (.row e s' l false) }) h3 (fun b hb => hok.froz o e s' l h4 b hb)
        | false =>
          have h2' : h = h' := by simpa using h2
          refine same h2'.symm ?_
          rw [← hx]
          exact castD_vrep hb (a := .sl s') (b := .sl s) (row_vrep hor (fun b hb => ho.froz o e s' l he' b hb))
      · cases ht
  | _ =>
    simp only [take0, Option.map_eq_some_iff] at ht
    obtain ⟨y, hy, he⟩ := ht
    cases he
    exact same rfl (asV_ok hy hr)
theorem VRep.cells1 {w : World} {ok : Nat → Prop} {t : Ty} {x : Den t} {u : Value} (ht : t.isAgg = false) (h : VRep w ok t x u) : RepC w ok t x [u] := by
  unfold VRep at h; rw [if_neg (by rw [ht]; simp)] at h; exact h
theorem takeC_ok {E : Env} : ∀ {av : AV} {c : Cx} {h h' : Hp} {t : Ty} {g : GV} {cs : List Value}, c.Ok E → c.objs = h.objs → takeC h t av = some (g, h') → AVL c av cs →
    (c.at h').Ok E ∧ c.Evol (c.at h') ∧ h.Agr h' ∧ RepC c.w (c.at h').okb g.t g.x cs := by
  intro av
  have leaf : ∀ {av : AV} {c : Cx} {h h' : Hp} {t : Ty} {g : GV} {cs : List Value}, c.Ok E → c.objs = h.objs → t.isAgg = false → ((take0 h t av).map fun r => ((⟨t, r.1⟩, r.2) : GV × Hp)) = some (g, h') → AVL c av cs → (∃ u, cs = [u]) →
      (c.at h').Ok E ∧ c.Evol (c.at h') ∧ h.Agr h' ∧ RepC c.w (c.at h').okb g.t g.x cs := by
    intro av c h h' t g cs ho hh ha ht hr hu
    obtain ⟨u, rfl⟩ := hu
    obtain ⟨r, h1, h2⟩ := Option.map_eq_some_iff.1 ht
    cases h2
    obtain ⟨k1, k2, k3, k4⟩ := take0_ok (x := r.1) (h' := r.2) ho hh h1 hr
    exact ⟨k1, k2, k3, k4.cells1 ha⟩
  induction av with
  | cl u x =>
    intro c h h' t g cs ho hh ht hr
    have ht : some ((⟨u, x⟩ : GV), h) = some (g, h') := by cases t <;> exact ht
    cases ht
    have : c.at h = c := by cases c; subst hh; rfl
    rw [this]
    exact ⟨ho, Cx.Evol.refl c, Hp.Agr.refl h, hr⟩
  | cat a b iha ihb =>
    intro c h h' t g cs ho hh ht hr
    cases t with
    | cons s t =>
      simp only [takeC] at ht
      split at ht
      · rename_i y h1 hy
        split at ht
        · rename_i z h2 hz
          cases ht
          obtain ⟨d, e, rfl, r1, r2⟩ := hr
          obtain ⟨a1, a2, a3, a4⟩ := iha ho hh hy r1
          obtain ⟨b1, b2, b3, b4⟩ := ihb (c := c.at h1) a1 rfl hz (r2.evol a2)
          exact ⟨b1, a2.trans b2, a3.trans b3, d, e, rfl, a4.mono (fun k hk => ⟨rfl, (b2.okb k hk).2⟩), b4⟩
        · cases ht
      · cases ht
    | _ => simp [takeC] at ht
  | rsl o =>
    intro c h h' t g cs ho hh ht hr
    have ht : (if t.isAgg = false then ((take0 h t (.rsl o)).map fun r => ((⟨t, r.1⟩, r.2) : GV × Hp)) else none) = some (g, h') := by cases t <;> exact ht
    split at ht
    · rename_i ha; exact leaf ho hh ha ht hr (by obtain ⟨u, hu, _⟩ := hr; exact ⟨u, hu⟩)
    · cases ht
  | nils =>
    intro c h h' t g cs ho hh ht hr
    have ht : (if t.isAgg = false then ((take0 h t .nils).map fun r => ((⟨t, r.1⟩, r.2) : GV × Hp)) else none) = some (g, h') := by cases t <;> exact ht
    split at ht
    · rename_i ha; exact leaf ho hh ha ht hr ⟨_, hr⟩
    · cases ht
  | _ => intro c h h' t g cs ho hh ht hr; cases t <;> simp [takeC] at ht
theorem take_eq {h : Hp} {t : Ty} {av : AV} (hn : ∀ u a, av ≠ .ag u a) : take h t av = take0 h t av := by
  cases av <;> first | rfl | exact absurd rfl (hn _ _)
theorem take_ok {E : Env} {c : Cx} {h h' : Hp} {t : Ty} {av : AV} {x : Den t} {u : Value} (ho : c.Ok E) (hh : c.objs = h.objs) (ht : take h t av = some (x, h')) (hr : AVL c av [u]) :
    (c.at h').Ok E ∧ c.Evol (c.at h') ∧ h.Agr h' ∧ VRep c.w (c.at h').okb t x u := by
  cases av with
  | ag s a =>
    simp only [take] at ht
    split at ht
    · rename_i hst
      have hst := Ty.beq_eq hst
      subst hst
      split at ht
      · rename_i g h1 hg
        split at ht
        · rename_i hb
          cases ht
          obtain ⟨hagg, cs, hu, hr⟩ := hr
          cases hu
          obtain ⟨k1, k2, k3, k4⟩ := takeC_ok ho hh hg hr
          refine ⟨k1, k2, k3, ?_⟩
          unfold VRep
          rw [if_pos hagg]
          exact ⟨cs, rfl, castD_rep hb k4⟩
        · cases ht
      · cases ht
    · cases ht
  | _ => rw [take_eq (by intro _ _ e; cases e)] at ht; exact take0_ok ho hh ht hr
end Go.Sy
namespace Go.Sy
open Go Go.RowKit

/-- The part of a value that a path leads to. -/
def getP : (t : Ty) → Den t → List Sp → Option GV
  | t, x, [] => some ⟨t, x⟩
  | .cons a _, x, .hd :: p => getP a x.1 p
  | .cons _ b, x, .tl :: p => getP b x.2 p
  | .arr _ t, l, .ix i :: p => getP t (l.getD i (dflt t)) p
  | _, _, _ => none
/-- The value with that part turned. -/
def setP : (t : Ty) → Den t → List Sp → GV → Option (Den t)
  | t, _, [], g => if h : Ty.beq g.t t = true then some (castD h g.x) else none
  | .cons a _, x, .hd :: p, g => (setP a x.1 p g).map fun y => (y, x.2)
  | .cons _ b, x, .tl :: p, g => (setP b x.2 p g).map fun y => (x.1, y)
  | .arr _ t, l, .ix i :: p, g => (setP t (l.getD i (dflt t)) p g).map fun y => l.set i y
  | _, _, _, _ => none

def spl (cs : List Value) (off : Nat) (ds : List Value) : List Value := cs.take off ++ ds ++ cs.drop (off + ds.length)
theorem spl_length {cs ds : List Value} {off : Nat} (h : off + ds.length ≤ cs.length) : (spl cs off ds).length = cs.length := by
  simp [spl]; omega
theorem spl_get {cs ds : List Value} {off j : Nat} (h : off + ds.length ≤ cs.length) :
    (spl cs off ds)[j]? = if j < off then cs[j]? else if j < off + ds.length then ds[j - off]? else cs[j]? := by
  unfold spl
  split
  · rename_i h1
    rw [List.append_assoc, List.getElem?_append_left (by simp; omega), List.getElem?_take, if_pos h1]
  · rename_i h1
    split
    · rename_i h2
      rw [List.append_assoc, List.getElem?_append_right (by simp; omega), List.getElem?_append_left (by simp; omega)]
      congr 1
      simp; omega
    · rename_i h2
      rw [List.getElem?_append_right (by simp; omega), List.getElem?_drop]
      congr 1
      simp; omega
theorem spl_append_left {c d ds : List Value} {off : Nat} (h : off + ds.length ≤ c.length) : spl (c ++ d) off ds = spl c off ds ++ d := by
  unfold spl
  rw [List.take_append_of_le_length (by omega), List.drop_append_of_le_length (by omega)]
  simp
theorem spl_append_right {c d ds : List Value} {off : Nat} : spl (c ++ d) (c.length + off) ds = c ++ spl d off ds := by
  unfold spl
  rw [List.take_length_add_append, Nat.add_assoc, List.drop_length_add_append]
  simp
theorem dt_append_left {c d : List Value} {off n : Nat} (h : off + n ≤ c.length) : ((c ++ d).drop off).take n = (c.drop off).take n := by
  rw [List.drop_append_of_le_length (by omega), List.take_append_of_le_length (by simp; omega)]
theorem dt_append_right {c d : List Value} {off n : Nat} : ((c ++ d).drop (c.length + off)).take n = (d.drop off).take n := by
  rw [List.drop_length_add_append]
theorem dt_dt {cs : List Value} {a b m n : Nat} (h : b + n ≤ m) : ((((cs.drop a).take m).drop b).take n) = (cs.drop (a + b)).take n := by
  apply List.ext_getElem?
  intro i
  simp only [List.getElem?_take, List.getElem?_drop]
  split
  · rw [if_pos (by omega)]; congr 1; omega
  · rfl

theorem pOff_le : ∀ {p : List Sp} {t u : Ty} {off : Nat}, pOff t p = some (off, u) → off + u.size ≤ t.size := by
  intro p
  induction p with
  | nil => intro t u off h; simp [pOff] at h; obtain ⟨rfl, rfl⟩ := h; omega
  | cons s p ih =>
    intro t u off h
    cases s <;> cases t <;> simp only [pOff, reduceCtorEq] at h
    · have := ih h; simp only [Ty.size]; omega
    · simp only [Option.map_eq_some_iff] at h
      obtain ⟨⟨o', u'⟩, h', he⟩ := h
      cases he
      have := ih h'; simp only [Ty.size]; omega
    · split at h
      · rename_i i n t hlt
        simp only [Option.map_eq_some_iff] at h
        obtain ⟨⟨o', u'⟩, h', he⟩ := h
        cases he
        have h1 := ih h'
        have h2 : (i + 1) * t.size ≤ n * t.size := Nat.mul_le_mul_right _ (by omega)
        rw [Nat.add_mul] at h2
        simp only [Ty.size]; omega
      · cases h
theorem getP_ok {w : World} {ok : Nat → Prop} : ∀ {p : List Sp} {t u : Ty} {off : Nat} {x : Den t} {cs : List Value}, pOff t p = some (off, u) → RepC w ok t x cs →
    ∃ y, getP t x p = some ⟨u, y⟩ ∧ RepC w ok u y ((cs.drop off).take u.size) := by
  intro p
  induction p with
  | nil =>
    intro t u off x cs h hr
    simp [pOff] at h; obtain ⟨rfl, rfl⟩ := h
    refine ⟨x, by cases t <;> rfl, ?_⟩
    rw [List.drop_zero, ← hr.length, List.take_length]; exact hr
  | cons s p ih =>
    intro t u off x cs h hr
    cases s <;> cases t <;> simp only [pOff, reduceCtorEq] at h
    · obtain ⟨c, d, rfl, h1, h2⟩ := hr
      obtain ⟨y, h3, h4⟩ := ih h h1
      refine ⟨y, h3, ?_⟩
      rw [dt_append_left (by rw [h1.length]; exact pOff_le h)]; exact h4
    · simp only [Option.map_eq_some_iff] at h
      obtain ⟨⟨o', u'⟩, h', he⟩ := h
      cases he
      obtain ⟨c, d, rfl, h1, h2⟩ := hr
      obtain ⟨y, h3, h4⟩ := ih h' h2
      refine ⟨y, h3, ?_⟩
      rw [← h1.length, dt_append_right]; exact h4
    · split at h
      · rename_i i n t hlt
        simp only [Option.map_eq_some_iff] at h
        obtain ⟨⟨o', u'⟩, h', he⟩ := h
        cases he
        obtain ⟨h1, h2, h3⟩ := hr
        have hx : x[i]? = some (x.getD i (dflt t)) := by rw [List.getD_eq_getElem?_getD, List.getElem?_eq_getElem (by omega)]; rfl
        obtain ⟨y, h4, h5⟩ := ih h' (h3 i _ hx)
        refine ⟨y, h4, ?_⟩
        rw [dt_dt (pOff_le h')] at h5; exact h5
      · cases h
theorem setP_ok {w : World} {ok : Nat → Prop} : ∀ {p : List Sp} {t u : Ty} {off : Nat} {x x' : Den t} {y : Den u} {cs ds : List Value}, pOff t p = some (off, u) → RepC w ok t x cs →
    setP t x p ⟨u, y⟩ = some x' → RepC w ok u y ds → RepC w ok t x' (spl cs off ds) := by
  intro p
  induction p with
  | nil =>
    intro t u off x x' y cs ds h hr hs hd
    simp [pOff] at h; obtain ⟨rfl, rfl⟩ := h
    have e : spl cs 0 ds = ds := by
      have h1 := hr.length; have h2 := hd.length
      simp [spl]; omega
    have hs : (if h : Ty.beq t t = true then some (castD h y) else none) = some x' := by cases t <;> exact hs
    split at hs
    · rename_i hb
      cases hs; rw [e]; exact castD_rep hb hd
    · cases hs
  | cons s p ih =>
    intro t u off x x' y cs ds h hr hs hd
    have hdl := hd.length
    cases s <;> cases t <;> simp only [pOff, reduceCtorEq] at h
    · obtain ⟨c, d, rfl, h1, h2⟩ := hr
      simp only [setP, Option.map_eq_some_iff] at hs
      obtain ⟨z, hz, rfl⟩ := hs
      have hle := pOff_le h
      rw [spl_append_left (by rw [h1.length]; omega)]
      exact ⟨_, _, rfl, ih h h1 hz hd, h2⟩
    · simp only [Option.map_eq_some_iff] at h
      obtain ⟨⟨o', u'⟩, h', he⟩ := h
      simp only [Prod.mk.injEq] at he; obtain ⟨rfl, rfl⟩ := he
      obtain ⟨c, d, rfl, h1, h2⟩ := hr
      simp only [setP, Option.map_eq_some_iff] at hs
      obtain ⟨z, hz, rfl⟩ := hs
      rw [← h1.length, spl_append_right]
      exact ⟨_, _, rfl, h1, ih h' h2 hz hd⟩
    · split at h
      · rename_i i n t hlt
        simp only [Option.map_eq_some_iff] at h
        obtain ⟨⟨o', u'⟩, h', he⟩ := h
        simp only [Prod.mk.injEq] at he; obtain ⟨rfl, rfl⟩ := he
        obtain ⟨h1, h2, h3⟩ := hr
        simp only [setP, Option.map_eq_some_iff] at hs
        obtain ⟨z, hz, rfl⟩ := hs
        have hx : x[i]? = some (x.getD i (dflt t)) := by rw [List.getD_eq_getElem?_getD, List.getElem?_eq_getElem (by omega)]; rfl
        have h4 := ih h' (h3 i _ hx) hz hd
        have hle := pOff_le h'
        have hin : (i + 1) * t.size ≤ n * t.size := Nat.mul_le_mul_right _ (by omega)
        rw [Nat.add_mul, Nat.one_mul] at hin
        have hfit : i * t.size + o' + ds.length ≤ cs.length := by omega
        refine ⟨by simpa using h1, by rw [spl_length hfit]; exact h2, fun j q hq => ?_⟩
        have hj : j < n := by
          have := (List.getElem?_eq_some_iff.1 hq).1; simp at this; omega
        have hjn : (j + 1) * t.size ≤ n * t.size := Nat.mul_le_mul_right _ (by omega)
        rw [Nat.add_mul, Nat.one_mul] at hjn
        rw [List.getElem?_set] at hq
        by_cases e : i = j
        · subst e
          rw [if_pos rfl, if_pos (by omega)] at hq
          cases hq
          have e2 : ((spl cs (i * t.size + o') ds).drop (i * t.size)).take t.size = spl ((cs.drop (i * t.size)).take t.size) o' ds := by
            apply List.ext_getElem?
            intro k
            rw [List.getElem?_take, List.getElem?_drop, spl_get hfit, spl_get (by simp; omega)]
            simp only [List.getElem?_take, List.getElem?_drop]
            by_cases hk : k < t.size
            · rw [if_pos hk]
              by_cases h5 : k < o'
              · rw [if_pos (by omega), if_pos h5, if_pos hk]
              · rw [if_neg (by omega), if_neg h5]
                by_cases h6 : k < o' + ds.length
                · rw [if_pos (by omega), if_pos h6]; congr 1; omega
                · rw [if_neg (by omega), if_neg h6, if_pos hk]
            · rw [if_neg hk, if_neg (by omega), if_neg (by omega), if_neg hk]
          rw [e2]; exact h4
        · rw [if_neg e] at hq
          have e2 : ((spl cs (i * t.size + o') ds).drop (j * t.size)).take t.size = (cs.drop (j * t.size)).take t.size := by
            apply List.ext_getElem?
            intro k
            simp only [List.getElem?_take, List.getElem?_drop]
            by_cases hk : k < t.size
            · rw [if_pos hk, if_pos hk, spl_get hfit]
              rcases Nat.lt_or_ge j i with h5 | h5
              · have h6 : (j + 1) * t.size ≤ i * t.size := Nat.mul_le_mul_right _ (by omega)
                rw [Nat.add_mul, Nat.one_mul] at h6
                rw [if_pos (by omega)]
              · have h6 : (i + 1) * t.size ≤ j * t.size := Nat.mul_le_mul_right _ (by omega)
                rw [Nat.add_mul, Nat.one_mul] at h6
                rw [if_neg (by omega), if_neg (by omega)]
            · rw [if_neg hk, if_neg hk]
          rw [e2]; exact h3 j q hq
      · cases h
end Go.Sy
