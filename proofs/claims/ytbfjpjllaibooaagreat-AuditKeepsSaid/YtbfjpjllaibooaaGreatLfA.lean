/- A verified reading of Go code into a small language (no conditions: a library for the claim's own proof): part A. -/
import Derived.Orders
import Derived.Below
import Derived.CallsIn
import Derived.Laws.IdiomCopy
import Derived.Deep.MidRow
import Derived.WideLaws
import Derived.OrdersIn
import Derived.RangeFuncNested
import Derived.WalkSpells
import Derived.Laws.StructEq
import Derived.Laws.Cover3
set_option linter.all false
/- Values without memory, and when a value in a world reads as one. -/
namespace Go.Lf
open Go.RowKit
inductive PV where
 | int (k : IntKind) (n : Int)
 | bool (b : Bool)
 | str (s : ByteArray)
 | nilI
 | nilF
 | nilP
 | agg (l : List PV)
 | tup (l : List PV)
 | sl (l : List PV)
 | fn (f : Nat) (first caps : List PV)
 | box (x : PV)
 | ifc (t : Nat) (x : PV)
 | mp (ks vs : List PV)
 /-- a nil map -/
 | nilM
 /-- a slice of which it is not said in what blocks its cells are -/
 | msl (l : List PV)
 deriving Inhabited
namespace PV
def cells : PV → List PV
 | agg l => l
 | x => [x]
def isAg : PV → Bool
 | agg _ => true
 | _ => false
def isCell : PV → Bool
 | agg _ => false
 | tup _ => false
 | _ => true
/-- a slice, wherever it is -/
def unm : PV → PV
 | msl l => sl l
 | x => x
/-- a place's content: so many cells, an aggregate or not -/
def okc (n : Nat) (a : Bool) (x : PV) : Bool := (x.cells.length == n && x.isAg == a) && x.cells.all isCell
end PV
theorem okc_cells {x : PV} {n : Nat} {ag : Bool} (h : x.okc n ag = true) : x.cells.length = n ∧ x.isAg = ag := by
 simp only [PV.okc, Bool.and_eq_true, beq_iff_eq] at h
 exact h.1
theorem okc_all {x : PV} {n : Nat} {ag : Bool} (h : x.okc n ag = true) : ∀ y ∈ x.cells, y.isCell = true := by
 simp only [PV.okc, Bool.and_eq_true, List.all_eq_true] at h
 exact h.2
/-- what one of F's places holds is the same in both worlds -/
def Same (w w' : World) (b o : Nat) : Prop := w'.cell? ⟨b, o, none⟩ = w.cell? ⟨b, o, none⟩ ∧ (∀ es c, w.heap[b]? = some (.map es c) → w'.heap[b]? = some (.map es c)) ∧
 ∀ cs t fr, w.heap[b]? = some (.cells cs t fr) → ∃ cs' t', w'.heap[b]? = some (.cells cs' t' fr) ∧ cs'.size = cs.size
/-- the party behind a function that is handed in to be called with elements (yield): the function; the places that were frozen when it was handed in; what holds of a state, the party's blocks, the places that
  it leans on besides, and a world; what a call does to the state -/
structure Xt where
 yv : Value
 one : yv.oneCell' = true
 F0 : Nat → Nat → Prop
 J : PV → List Nat → (Nat → Nat → Prop) → World → Prop
 step : PV → List PV → Option (Bool × PV)
 stable : ∀ x bs G w w', J x bs G w → (∀ b ∈ bs, w'.heap[b]? = w.heap[b]?) → (∀ b o, G b o → Same w w' b o) → w.heap.size ≤ w'.heap.size → w'.os = w.os → w'.tape = w.tape → w'.output = w.output → J x bs G w'
def Xt.none : Xt := { yv := .nilFunc, one := rfl, F0 := fun _ _ => False, J := fun _ _ _ _ => False, step := fun _ _ => Option.none, stable := fun _ _ _ _ _ h => h.elim }
/-- what the listed package-level variables hold: the variable's number, its content, so many cells, an aggregate or not; and the party behind a yield -/
class Gl where
 l : List (Nat × PV × Nat × Bool)
 x : Xt := Xt.none
/-- slices that are told lie in blocks from here on -/
class Mk where
 n : Nat
variable [Mk] [Gl]
/-- 'v' in world 'w' reads as 'x'; every cell that is met is one of F's -/
inductive Rep (F : Nat → Nat → Prop) (w : World) : Value → PV → Prop where
 | int (k : IntKind) (n : Int) : Rep F w (.int k n) (.int k n)
 | bool (b : Bool) : Rep F w (.bool b) (.bool b)
 | str (s : ByteArray) : Rep F w (.string s) (.str s)
 | nilI : Rep F w .nilIface .nilI
 | nilF : Rep F w .nilFunc .nilF
 | nilP : Rep F w (.pointer none) .nilP
 | agg (cs : Array Value) (xs : List PV) (hl : cs.size = xs.length) (hc : ∀ x ∈ xs, x.isCell = true)
   (h : ∀ (i : Nat) (c : Value) (x : PV), cs[i]? = some c → xs[i]? = some x → Rep F w c x) : Rep F w (.agg cs) (.agg xs)
 | tup (cs : Array Value) (xs : List PV) (hl : cs.size = xs.length)
   (h : ∀ (i : Nat) (c : Value) (x : PV), cs[i]? = some c → xs[i]? = some x → Rep F w c x) : Rep F w (.tuple cs) (.tup xs)
 | sl0 (p : Option Addr) : Rep F w (.slice p 0 0) (.sl [])
 | sl (b o cap n : Nat) (xs : List PV) (g : Nat → Nat → Value) (hcap : xs.length ≤ cap) (hm : cap ≤ maxLen)
   (hn : ∀ x ∈ xs, x.cells.length = n) (hc : ∀ x ∈ xs, ∀ y ∈ x.cells, y.isCell = true)
   (hg : ∀ (i : Nat) (x : PV) (j : Nat) (y : PV), xs[i]? = some x → x.cells[j]? = some y → F b (o + i * n + j) ∧ w.cell? ⟨b, o + i * n + j, none⟩ = some (g i j))
   (h : ∀ (i : Nat) (x : PV) (j : Nat) (y : PV), xs[i]? = some x → x.cells[j]? = some y → Rep F w (g i j) y)
   (hk : Mk.n ≤ b ∧ (0 < Mk.n → ∀ (i : Nat) (x : PV) (j : Nat) (y : PV), xs[i]? = some x → x.cells[j]? = some y → w.frozen? ⟨b, o + i * n + j, none⟩ = false)) : Rep F w (.slice (some ⟨b, o, none⟩) xs.length cap) (.sl xs)
 | msl0 (p : Option Addr) : Rep F w (.slice p 0 0) (.msl [])
 | msl (b o cap n : Nat) (xs : List PV) (g : Nat → Nat → Value) (hcap : xs.length ≤ cap) (hm : cap ≤ maxLen)
   (hn : ∀ x ∈ xs, x.cells.length = n) (hc : ∀ x ∈ xs, ∀ y ∈ x.cells, y.isCell = true)
   (hg : ∀ (i : Nat) (x : PV) (j : Nat) (y : PV), xs[i]? = some x → x.cells[j]? = some y → F b (o + i * n + j) ∧ w.cell? ⟨b, o + i * n + j, none⟩ = some (g i j))
   (h : ∀ (i : Nat) (x : PV) (j : Nat) (y : PV), xs[i]? = some x → x.cells[j]? = some y → Rep F w (g i j) y) : Rep F w (.slice (some ⟨b, o, none⟩) xs.length cap) (.msl xs)
 | fn (f : Nat) (a c : Array Value) (xs ys : List PV) (ha : a.size = xs.length) (hc : c.size = ys.length)
   (h1 : ∀ (i : Nat) (u : Value) (x : PV), a[i]? = some u → xs[i]? = some x → Rep F w u x) (h2 : ∀ (i : Nat) (u : Value) (x : PV), c[i]? = some u → ys[i]? = some x → Rep F w u x) :
   Rep F w (.func (.func f) a c) (.fn f xs ys)
 | box (b o : Nat) (x : PV) (g : Nat → Value) (hc : ∀ y ∈ x.cells, y.isCell = true)
   (hg : ∀ (j : Nat) (y : PV), x.cells[j]? = some y → F b (o + j) ∧ w.cell? ⟨b, o + j, none⟩ = some (g j))
   (h : ∀ (j : Nat) (y : PV), x.cells[j]? = some y → Rep F w (g j) y) : Rep F w (.pointer (some ⟨b, o, none⟩)) (.box x)
 | ifc (t : Nat) (v : Value) (x : PV) (h : Rep F w v x) : Rep F w (.iface t v) (.ifc t x)
 | nilM : Rep F w (.map none) .nilM
 | mp (r clock : Nat) (es : Array MapEntry) (ks vs : List PV) (hb : w.heap[r]? = some (.map es clock)) (hF : F r 0) (hk : es.size = ks.length) (hv : es.size = vs.length)
   (h1 : ∀ (i : Nat) (e : MapEntry) (x : PV), es[i]? = some e → ks[i]? = some x → Rep F w e.key x)
   (h2 : ∀ (i : Nat) (e : MapEntry) (x : PV), es[i]? = some e → vs[i]? = some x → Rep F w e.val x) : Rep F w (.map (some r)) (.mp ks vs)
theorem Same.of_block {w w' : World} {b : Nat} (h : w'.heap[b]? = w.heap[b]?) (o : Nat) : Same w w' b o :=
 ⟨World.cell?_of_block (w := w) (a := ⟨b, o, none⟩) h, fun es c hm => h.trans hm, fun cs t fr hm => ⟨cs, t, h.trans hm, rfl⟩⟩
theorem Same.frozen {w w' : World} {b o : Nat} {u : Value} (h : Same w w' b o) (hc : w.cell? ⟨b, o, none⟩ = some u) : w'.frozen? ⟨b, o, none⟩ = w.frozen? ⟨b, o, none⟩ := by
 unfold World.cell? at hc
 split at hc
 ·rename_i cs t fr hb
  obtain ⟨cs', t', h1, _⟩ := h.2.2 cs t fr hb
  unfold World.frozen?
  simp only at hb h1 ⊢
  rw [hb, h1]
 ·cases hc
theorem Rep.mono {F F' : Nat → Nat → Prop} {w w' : World} {v : Value} {x : PV} (h : Rep F w v x) (hF : ∀ b o, F b o → F' b o)
  (hw : ∀ b o, F b o → Same w w' b o) : Rep F' w' v x := by
 induction h with
 | int k n => exact .int k n
 | bool b => exact .bool b
 | str s => exact .str s
 | nilI => exact .nilI
 | nilF => exact .nilF
 | nilP => exact .nilP
 | agg cs xs hl hc _ ih => exact .agg cs xs hl hc ih
 | tup cs xs hl _ ih => exact .tup cs xs hl ih
 | sl0 p => exact .sl0 p
 | sl b o cap n xs g hcap hm hn hc hg _ hk ih =>
  exact .sl b o cap n xs g hcap hm hn hc (fun i x j y h1 h2 => ⟨hF _ _ (hg i x j y h1 h2).1, by rw [(hw _ _ (hg i x j y h1 h2).1).1]; exact (hg i x j y h1 h2).2⟩) ih
   ⟨hk.1, fun h0 i x j y h1 h2 => by rw [(hw _ _ (hg i x j y h1 h2).1).frozen (hg i x j y h1 h2).2]; exact hk.2 h0 i x j y h1 h2⟩
 | msl0 p => exact .msl0 p
 | msl b o cap n xs g hcap hm hn hc hg _ ih =>
  exact .msl b o cap n xs g hcap hm hn hc (fun i x j y h1 h2 => ⟨hF _ _ (hg i x j y h1 h2).1, by rw [(hw _ _ (hg i x j y h1 h2).1).1]; exact (hg i x j y h1 h2).2⟩) ih
 | fn f a c xs ys ha hc _ _ i1 i2 => exact .fn f a c xs ys ha hc i1 i2
 | box b o x g hc hg _ ih => exact .box b o x g hc (fun j y h1 => ⟨hF _ _ (hg j y h1).1, by rw [(hw _ _ (hg j y h1).1).1]; exact (hg j y h1).2⟩) ih
 | ifc t v x _ ih => exact .ifc t v x ih
 | nilM => exact .nilM
 | mp r clock es ks vs hb hF' hk hv _ _ i1 i2 => exact .mp r clock es ks vs ((hw _ _ hF').2.1 _ _ hb) (hF _ _ hF') hk hv i1 i2
theorem oneCell_of_rep {F : Nat → Nat → Prop} {w : World} {v : Value} {x : PV} (h : Rep F w v x) (hx : x.isCell = true) : v.oneCell' = true := by
 cases h <;> simp_all [PV.isCell, Value.oneCell']
/-- a value's cells read as the cells of what it reads as -/
theorem Rep.cells {F : Nat → Nat → Prop} {w : World} {v : Value} {x : PV} (h : Rep F w v x) :
  v.cells.size = x.cells.length ∧ ∀ (i : Nat) (c : Value) (y : PV), v.cells[i]? = some c → x.cells[i]? = some y → Rep F w c y := by
 have one : ∀ {v : Value} {x : PV}, Rep F w v x → v.cells = #[v] → x.cells = [x] → v.cells.size = x.cells.length ∧ ∀ (i : Nat) (c : Value) (y : PV), v.cells[i]? = some c → x.cells[i]? = some y → Rep F w c y := by
  intro v x h hv hx
  rw [hv, hx]
  refine ⟨rfl, fun i c y h1 h2 => ?_⟩
  cases i with
  | zero => simp at h1 h2; subst h1; subst h2; exact h
  | succ i => simp at h2
 cases h with
 | agg cs xs hl hc h => exact ⟨hl, h⟩
 | _ => exact one (by constructor <;> assumption) rfl rfl
def Reps (F : Nat → Nat → Prop) (w : World) (vs : Array Value) (xs : List PV) : Prop :=
 vs.size = xs.length ∧ ∀ (i : Nat) (v : Value) (x : PV), vs[i]? = some v → xs[i]? = some x → Rep F w v x
theorem Reps.mono {F F' : Nat → Nat → Prop} {w w' : World} {v : Array Value} {x : List PV} (h : Reps F w v x) (hF : ∀ b o, F b o → F' b o)
  (hw : ∀ b o, F b o → Same w w' b o) : Reps F' w' v x :=
 ⟨h.1, fun i a b h1 h2 => (h.2 i a b h1 h2).mono hF hw⟩
def GlOk (F : Nat → Nat → Prop) (w : World) : Prop := Mk.n ≤ w.heap.size ∧ ∀ e ∈ Gl.l, e.2.1.okc e.2.2.1 e.2.2.2 = true ∧ Rep F w (.pointer (some ⟨e.1, 0, none⟩)) (.box e.2.1) ∧
 0 < e.2.2.1 ∧ ∃ cs t fr, w.heap[e.1]? = some (.cells cs t fr) ∧ cs.size = e.2.2.1
theorem GlOk.mono {F F' : Nat → Nat → Prop} {w w' : World} (h : GlOk F w) (hs : w.heap.size ≤ w'.heap.size) (hF : ∀ b o, F b o → F' b o) (hw : ∀ b o, F b o → Same w w' b o) : GlOk F' w' := ⟨Nat.le_trans h.1 hs, fun e he => by
 obtain ⟨h1, h2, h3, cs, t, fr, h4, h5⟩ := h.2 e he
 refine ⟨h1, h2.mono hF hw, h3, ?_⟩
 have hF0 : F e.1 0 := by
  have hl := (okc_cells h1).1
  cases h2 with
  | box _ _ _ g hc hg _ =>
   have := (hg 0 (e.2.1.cells[0]'(by omega)) (List.getElem?_eq_getElem (by omega))).1
   simpa using this
 obtain ⟨cs', t', g1, g2⟩ := (hw _ _ hF0).2.2 cs t fr h4
 exact ⟨cs', t', fr, g1, g2.trans h5⟩⟩
/-- the function is entered by a call -/
def Enters (P : Program) (f : Nat) : Prop := ∀ args w, (callFunc f args).run P w = .ok (.enter f args) w
/-- A call of f with what reads as 'args' comes to an end, returns what reads as 'r', and has changed no block that there was. -/
def Ok (P : Program) (f : Nat) (args : List PV) (r : PV) : Prop :=
 Enters P f ∧ ∀ F w vs, (∀ b o, F b o → b < w.heap.size) → GlOk F w → Reps F w vs args → Calls P f vs w fun e w' =>
  ∃ v F', e = .returned v ∧ Below w.heap.size w w' ∧ (∀ b o, F b o → F' b o) ∧ (∀ b o, F' b o → F b o ∨ w.heap.size ≤ b) ∧
   (∀ b o, F' b o → b < w'.heap.size) ∧ Rep F' w' v r
def OkV (P : Program) (x : PV) (args : List PV) (r : PV) : Prop :=
 ∃ f first caps, x = .fn f first caps ∧ Ok P f (first ++ args ++ caps) r
end Go.Lf
/- The language of what a function computes, and the reading of one operation into it. -/
namespace Go.Lf
variable [Mk] [Gl]
open Go.RowKit
/-! ### symbolic states -/
inductive A (α : Type) where
 | dat (x : α)
 | kb (b : Bool)
 | nils
 | und
 | ptr (o off : Nat)
 | own (o : Nat)
 | eptr (o : Nat) (i : α) (sz off : Nat)
 /-- an element of a variable that is an array -/
 | aptr (o : Nat) (i : α)
 | bptr (x : α) (n : Nat) (ag : Bool) (off : Nat)
 | mref (o : Nat)
 | clo (f : Nat) (first caps : List (Nat × Nat))
 /-- the function that is handed in to be called with elements -/
 | yld
 deriving DecidableEq
inductive SV (α : Type) where
 | at (x : A α)
 | agg (l : List (A α))
 deriving DecidableEq
inductive Cs (α : Type) where
 | wh (x : α)
 | pts (l : List (A α))
 deriving DecidableEq
inductive Ob (α : Type) where
 /-- a variable of 'n' cells of a type; 'ag': an aggregate's; 'fz': never written again -/
 | cells (fz : Bool) (n : Nat) (ag : Bool) (cs : Cs α)
 /-- the array behind a slice of the call's own: the element's type, its cells; 'x' reads as the whole -/
 | arr (fz : Bool) (ty sz : Nat) (ag : Bool) (x : α)
 | map (fz : Bool) (x : α)
 /-- the party behind a yield: its state -/
 | ext (x : α)
 deriving DecidableEq
section
variable {α β : Type} (f : α → β) (m : Nat → Nat)
def A.map : A α → A β
 | .dat x => .dat (f x)
 | .kb b => .kb b
 | .nils => .nils
 | .und => .und
 | .ptr o off => .ptr (m o) off
 | .own o => .own (m o)
 | .eptr o i sz off => .eptr (m o) (f i) sz off
 | .aptr o i => .aptr (m o) (f i)
 | .bptr x n ag off => .bptr (f x) n ag off
 | .mref o => .mref (m o)
 | .clo g a c => .clo g (a.map fun p => (m p.1, p.2)) (c.map fun p => (m p.1, p.2))
 | .yld => .yld
def SV.map : SV α → SV β
 | .at x => .at (x.map f m)
 | .agg l => .agg (l.map (A.map f m))
def Cs.map : Cs α → Cs β
 | .wh x => .wh (f x)
 | .pts l => .pts (l.map (A.map f m))
def Ob.map' : Ob α → Ob β
 | .cells fz n ag cs => .cells fz n ag (cs.map f m)
 | .arr fz ty sz ag x => .arr fz ty sz ag (f x)
 | .map fz x => .map fz (f x)
 | .ext x => .ext (f x)
end
def look {β : Type} : List (Nat × Option β) → Nat → Option β
 | [], _ => none
 | (k, v) :: r, t => if Nat.beq k t then v else look r t
/-- the form of a call with memory: what goes in and what comes out; the leaves are places in a list -/
structure Sig where
 args : List (SV Nat)
 obs : List (Nat × Ob Nat)
 res : SV Nat
 robs : List (Nat × Ob Nat)
 nout : Nat
 deriving DecidableEq
/-! ### states in a world -/
/-- the block that a handle leads to -/
def hb : Value → Option Nat
 | .pointer (some a) => some a.block
 | .slice (some a) _ _ => some a.block
 | .map (some r) => some r
 | _ => none
/-- a list of blocks as one handle -/
def encB (bs : List Nat) : Value := .tuple (bs.map fun b : Nat => Value.int .i64 (b : Int)).toArray
/-- the blocks behind a handle -/
def HB (v : Value) (k : Nat) : Prop := hb v = some k ∨ ∃ bs, v = encB bs ∧ k ∈ bs
theorem HB_hb {v : Value} {k0 k : Nat} (h : hb v = some k0) : HB v k ↔ k = k0 := by
 constructor
 ·rintro (h1 | ⟨bs, rfl, _⟩)
  ·rw [h] at h1; exact (Option.some.inj h1).symm
  ·cases h
 ·rintro rfl; exact .inl h
theorem encB_inj {a b : List Nat} (h : encB a = encB b) : a = b := by
 unfold encB at h
 have h := Value.tuple.inj h
 have : ∀ a b : List Nat, a.map (fun b : Nat => Value.int .i64 (b : Int)) = b.map (fun b : Nat => Value.int .i64 (b : Int)) → a = b := by
  intro a
  induction a with
  | nil => intro b h; cases b <;> simp_all
  | cons x a ih =>
   intro b h
   cases b with
   | nil => simp at h
   | cons y b =>
    simp only [List.map_cons, List.cons.injEq, Value.int.injEq, true_and] at h
    rw [ih b h.2]
    congr 1
    exact Int.ofNat.inj h.1
 exact this a b (by have := congrArg Array.toList h; simpa using this)
theorem HB_encB {bs : List Nat} {k : Nat} : HB (encB bs) k ↔ k ∈ bs := by
 constructor
 ·rintro (h1 | ⟨bs', h, hm⟩)
  ·cases h1
  ·rw [encB_inj h]; exact hm
 ·exact fun h => .inr ⟨bs, rfl, h⟩
theorem HB_none {v : Value} (h : hb v = none) (he : ∀ bs, v ≠ encB bs) (k : Nat) : ¬ HB v k := by
 rintro (h1 | ⟨bs, h1, _⟩)
 ·rw [h] at h1; cases h1
 ·exact he bs h1
def NotTup (v : Value) : Prop := match v with
 | .tuple _ => False
 | _ => True
theorem HB_iff {v : Value} (h : NotTup v) {k : Nat} : HB v k ↔ hb v = some k := by
 constructor
 ·rintro (h1 | ⟨bs, rfl, _⟩)
  ·exact h1
  ·exact h.elim
 ·exact fun h => .inl h
def RepP (ρ : Nat → Value) (v : Value) (o off : Nat) : Prop := ∃ b, ρ o = .pointer (some ⟨b, 0, none⟩) ∧ v = .pointer (some ⟨b, off, none⟩)
def RepPs (ρ : Nat → Value) (vs : Array Value) (l : List (Nat × Nat)) : Prop :=
 vs.size = l.length ∧ ∀ (i : Nat) (v : Value) (p : Nat × Nat), vs[i]? = some v → l[i]? = some p → RepP ρ v p.1 p.2
def RepA (F : Nat → Nat → Prop) (ρ : Nat → Value) (w : World) (v : Value) : A PV → Prop
 | .dat x => Rep F w v x
 | .kb b => v = .bool b
 | .nils => v = .slice none 0 0
 | .und => v = undef
 | .ptr o off => RepP ρ v o off
 | .own o => v = ρ o ∧ v.oneCell' = true
 | .eptr o i sz off => ∃ g len cap k n, ρ o = .slice (some ⟨g, 0, none⟩) len cap ∧ i = .int k n ∧ 0 ≤ n ∧ n < len ∧ v = .pointer (some ⟨g, n.toNat * sz + off, none⟩)
 | .aptr o i => ∃ b k n, ρ o = .pointer (some ⟨b, 0, none⟩) ∧ i = .int k n ∧ 0 ≤ n ∧ v = .pointer (some ⟨b, n.toNat, none⟩)
 | .bptr x n ag off => x.okc n ag = true ∧ ∃ b o, v = .pointer (some ⟨b, o + off, none⟩) ∧ Rep F w (.pointer (some ⟨b, o, none⟩)) (.box x)
 | .mref o => v = ρ o ∧ v.oneCell' = true
 | .clo f a c => ∃ va vc, v = .func (.func f) va vc ∧ RepPs ρ va a ∧ RepPs ρ vc c
 | .yld => v = Gl.x.yv
def RepS (F : Nat → Nat → Prop) (ρ : Nat → Value) (w : World) (v : Value) : SV PV → Prop
 | .at x => RepA F ρ w v x
 | .agg l => ∃ cs, v = .agg cs ∧ cs.size = l.length ∧ ∀ (i : Nat) (c : Value) (x : A PV), cs[i]? = some c → l[i]? = some x → RepA F ρ w c x ∧ c.oneCell' = true
def RepCs (F : Nat → Nat → Prop) (ρ : Nat → Value) (w : World) (fz : Bool) (n : Nat) (ag : Bool) (c : Array Value) : Cs PV → Prop
 | .wh x => x.okc n ag = true ∧ (∀ y ∈ x.cells, y.isCell = true) ∧ ∀ (i : Nat) (u : Value) (y : PV), c[i]? = some u → x.cells[i]? = some y → Rep F w u y
 | .pts l => fz = false ∧ l.length = n ∧ ∀ (i : Nat) (u : Value) (a : A PV), c[i]? = some u → l[i]? = some a → RepA F ρ w u a ∧ u.oneCell' = true
/-- the party's state holds: its blocks; what is frozen in them was so from the first; the places that it leans on are frozen -/
def XJ (X : Xt) (F : Nat → Nat → Prop) (w : World) (bs : List Nat) (x : PV) : Prop :=
 (∀ b ∈ bs, b < w.heap.size) ∧ (∀ b j, b ∈ bs → F b j → X.F0 b j) ∧ ∃ G : Nat → Nat → Prop, (∀ b j, G b j → F b j) ∧ X.J x bs G w
def RepO (F : Nat → Nat → Prop) (ρ : Nat → Value) (w : World) (o : Nat) : Ob PV → Prop
 | .cells fz n ag cs => ∃ b c ty, ρ o = .pointer (some ⟨b, 0, none⟩) ∧ w.heap[b]? = some (.cells c ty (0, 0)) ∧ c.size = n ∧ RepCs F ρ w fz n ag c cs ∧ (∀ j, F b j ↔ (fz = true ∧ j < n))
 | .arr fz ty sz ag x => ∃ es, x = .sl es ∧ 0 < sz ∧ (∀ y ∈ es, y.okc sz ag = true ∧ ∀ z ∈ y.cells, z.isCell = true) ∧
   ((ρ o = .slice none 0 0 ∧ es = []) ∨ ∃ g cap cur, ρ o = .slice (some ⟨g, 0, none⟩) es.length cap ∧ w.heap[g]? = some (.cells cur ty (0, 0)) ∧ es.length ≤ cap ∧ cap ≤ maxLen ∧ cur.size = cap * sz ∧
    (∀ (i : Nat) (y : PV) (j : Nat) (z : PV), es[i]? = some y → y.cells[j]? = some z → ∃ u, cur[i * sz + j]? = some u ∧ Rep F w u z) ∧ (∀ j, F g j ↔ (fz = true ∧ j < es.length * sz)) ∧ Mk.n ≤ g)
 | .map fz x => ∃ r es clock ks vs, ρ o = .map (some r) ∧ x = .mp ks vs ∧ w.heap[r]? = some (.map es clock) ∧ es.size = ks.length ∧ es.size = vs.length ∧
   (∀ (i : Nat) (e : MapEntry) (y : PV), es[i]? = some e → ks[i]? = some y → Rep F w e.key y) ∧ (∀ (i : Nat) (e : MapEntry) (y : PV), es[i]? = some e → vs[i]? = some y → Rep F w e.val y) ∧
   (∀ j, F r j ↔ (fz = true ∧ j = 0))
 | .ext x => ∃ bs, ρ o = encB bs ∧ XJ Gl.x F w bs x
structure ObsR (F : Nat → Nat → Prop) (ρ : Nat → Value) (w : World) (go : Nat → Option (Ob PV)) : Prop where
 rep : ∀ o b, go o = some b → RepO F ρ w o b
 sep : ∀ o o' b b', go o = some b → go o' = some b' → o ≠ o' → ∀ k, HB (ρ o) k → ¬ HB (ρ o') k
/-- but for S's blocks no block that there was has changed -/
structure Kp (S : Nat → Prop) (w w' : World) : Prop where
 os : w'.os = w.os
 tape : w'.tape = w.tape
 output : w'.output = w.output
 size : w.heap.size ≤ w'.heap.size
 block : ∀ k, k < w.heap.size → ¬ S k → w'.heap[k]? = w.heap[k]?
def blocksOf (ρ : Nat → Value) (obs : List (Nat × Ob PV)) (k : Nat) : Prop := ∃ p ∈ obs, HB (ρ p.1) k
def lookO (l : List (Nat × Ob PV)) (o : Nat) : Option (Ob PV) := look (l.map fun p => (p.1, some p.2)) o
def instL (xs : List PV) (i : Nat) : PV := xs.getD i .nilI
def Sig.argsI (s : Sig) (xs : List PV) : List (SV PV) := s.args.map (SV.map (instL xs) id)
def Sig.obsI (s : Sig) (xs : List PV) : List (Nat × Ob PV) := s.obs.map fun p => (p.1, p.2.map' (instL xs) id)
def Sig.resI (s : Sig) (ys : List PV) : SV PV := s.res.map (instL ys) id
def Sig.robsI (s : Sig) (ys : List PV) : List (Nat × Ob PV) := s.robs.map fun p => (p.1, p.2.map' (instL ys) id)
/-- a call with memory: in comes what the form says with leaves xs, out goes what it says with leaves ys -/
def OkS (P : Program) (f : Nat) (s : Sig) (xs ys : List PV) : Prop :=
 Enters P f ∧ ∀ F w vs ρ, (∀ b o, F b o → b < w.heap.size) → GlOk F w → vs.size = s.args.length →
  (∀ (i : Nat) (v : Value) (a : SV PV), vs[i]? = some v → (s.argsI xs)[i]? = some a → RepS F ρ w v a) → ObsR F ρ w (lookO (s.obsI xs)) →
  Calls P f vs w fun e w' => ∃ v F' ρ', e = .returned v ∧ Kp (blocksOf ρ (s.obsI xs)) w w' ∧ (∀ b o, F b o → F' b o ∧ Same w w' b o) ∧
   (∀ b o, F' b o → F b o ∨ w.heap.size ≤ b ∨ blocksOf ρ (s.obsI xs) b) ∧ (∀ b o, F' b o → b < w'.heap.size) ∧
   RepS F' ρ' w' v (s.resI ys) ∧ ObsR F' ρ' w' (lookO (s.robsI ys)) ∧
   (∀ o b, lookO (s.robsI ys) o = some b → ∀ k, HB (ρ' o) k → w.heap.size ≤ k ∨ blocksOf ρ (s.obsI xs) k) ∧
   (∀ o ∈ s.obs.map (·.1), o ∈ s.robs.map (·.1) → ρ' o = ρ o)
def OkVS (P : Program) (x : PV) (s : Sig) (xs ys : List PV) : Prop := ∃ f, x = .fn f [] [] ∧ OkS P f s xs ys
/-- no memory stands behind it -/
def PV.scal : PV → Bool
 | .int _ _ => true
 | .bool _ => true
 | .str _ => true
 | _ => false
def PV.ground1 : PV → Bool
 | .agg l => l.all PV.scal
 | x => x.scal
def PV.ground : PV → Bool
 | .tup l => l.all PV.ground1
 | x => x.ground1
theorem rep_scal {F F' : Nat → Nat → Prop} {w w' : World} {v : Value} {x : PV} (h : Rep F w v x) (hx : x.scal = true) : Rep F' w' v x := by
 cases h <;> first | (cases hx; done) | constructor
theorem rep_ground1 {F F' : Nat → Nat → Prop} {w w' : World} {v : Value} {x : PV} (h : Rep F w v x) (hx : x.ground1 = true) : Rep F' w' v x := by
 cases h with
 | agg cs xs hl hc h => exact .agg cs xs hl hc fun i c x h1 h2 => rep_scal (h i c x h1 h2) (List.all_eq_true.1 hx x (List.mem_of_getElem? h2))
 | int k n => exact .int k n
 | bool b => exact .bool b
 | str s => exact .str s
 | _ => cases hx
/-- what has no memory behind it is told alike in any world -/
theorem rep_ground {F F' : Nat → Nat → Prop} {w w' : World} {v : Value} {x : PV} (h : Rep F w v x) (hx : x.ground = true) : Rep F' w' v x := by
 cases h with
 | tup cs xs hl h => exact .tup cs xs hl fun i c x h1 h2 => rep_ground1 (h i c x h1 h2) (List.all_eq_true.1 hx x (List.mem_of_getElem? h2))
 | agg cs xs hl hc h => exact rep_ground1 (.agg cs xs hl hc h) hx
 | int k n => exact .int k n
 | bool b => exact .bool b
 | str s => exact .str s
 | _ => cases hx
/-! ### primitives -/
/-- kinds of plain scalars -/
inductive CK where
 | i (k : IntKind)
 | b
 | s
 deriving DecidableEq
inductive Prim where
 | idx (n : Nat) (a : Bool)
 | aidx (k n : Nat) (a : Bool)
 | len
 | slen
 | arith (op : BinOp) (k : IntKind)
 | cmp (op : BinOp) (k : IntKind)
 | scmp (op : BinOp)
 | bcmp (op : BinOp)
 | acmp (op : BinOp) (ks : List CK)
 | cat
 | sidx
 | bnot
 | neg (k : IntKind)
 | conv (k : IntKind)
 | okc (n : Nat) (a : Bool)
 | okcs (l : List (Nat × Bool))
 | tc (i : Nat)
 | app (n : Nat) (a : Bool) (b : Nat)
 | lst (n : Nat) (a : Bool)
 | slc (n : Nat) (a : Bool)
 | slcF (n : Nat) (a : Bool)
 | slcT (n : Nat) (a : Bool)
 | ssl
 | sslF
 | sslT
 | upd (n : Nat) (a : Bool)
 /-- a part of an element -/
 | updF (n off m : Nat) (g : Bool)
 | rep (n : Nat) (a : Bool) (b : Nat) (z : PV)
 | pick
 | mn (k : IntKind)
 | mx (k : IntKind)
 | notnil
 /-- is a pointer nil (true), is it not (false)? -/
 | pnil (pos : Bool)
 | gnd
 | sid
 | unbox (n : Nat) (a : Bool)
 | mget (ag : Bool) (kk : List CK) (z : PV)
 | mget2 (ag : Bool) (kk : List CK) (z : PV)
 | mset (ag : Bool) (kk : List CK)
 | mdel (ag : Bool) (kk : List CK)
 | mlen
 /-- an array as a slice -/
 | asl (n : Nat)
 /-- an element of an array put anew -/
 | aupd (n : Nat)
def arithV (op : BinOp) (k : IntKind) (x y : Int) : Option Int :=
 match op with
 | .add => some (k.wrap (x + y))
 | .sub => some (k.wrap (x - y))
 | .mul => some (k.wrap (x * y))
 | .quo => if y = 0 then none else some (k.wrap (x.tdiv y))
 | .rem => if y = 0 then none else some (x.tmod y)
 | .and => some (k.wrap (BitVec.ofInt k.bits x &&& BitVec.ofInt k.bits y).toNat)
 | .or => some (k.wrap (BitVec.ofInt k.bits x ||| BitVec.ofInt k.bits y).toNat)
 | .shl => if y < 0 then none else some (k.wrap (x * 2 ^ (min y.toNat k.bits)))
 | .shr => if y < 0 then none else some (x.fdiv (2 ^ (min y.toNat k.bits)))
 | _ => none
def cmpV (op : BinOp) (x y : Int) : Option Bool :=
 match op with
 | .eql => some (decide (x = y))
 | .neq => some (!decide (x = y))
 | .lss => some (decide (x < y))
 | .leq => some (decide (x ≤ y))
 | .gtr => some (decide (y < x))
 | .geq => some (decide (y ≤ x))
 | _ => none
def scmpV (op : BinOp) (x y : ByteArray) : Option Bool :=
 match op with
 | .eql => some (decide (x = y))
 | .neq => some (!decide (x = y))
 | .lss => some (Op.bytesLess x.toList y.toList)
 | .leq => some (Op.bytesLess x.toList y.toList || decide (x = y))
 | .gtr => some (!(Op.bytesLess x.toList y.toList || decide (x = y)))
 | .geq => some (!(Op.bytesLess x.toList y.toList))
 | _ => none
def bcmpV (op : BinOp) (x y : Bool) : Option Bool :=
 match op with
 | .eql => some (x == y)
 | .neq => some (!(x == y))
 | _ => none
namespace PV
/-- plain scalars alike -/
def same1 : CK → PV → PV → Option Bool
 | .i k, .int k1 a, .int k2 b => if k1 = k ∧ k2 = k then some (decide (a = b)) else none
 | .b, .bool a, .bool b => some (a == b)
 | .s, .str a, .str b => some (decide (a = b))
 | _, _, _ => none
def sameK : List CK → List PV → List PV → Option Bool
 | [], [], [] => some true
 | k :: ks, x :: xs, y :: ys =>
  match same1 k x y with
  | some true => sameK ks xs ys
  | some false => some false
  | none => none
 | _, _, _ => none
end PV
namespace PV
/-- keys alike -/
def keq (ag : Bool) (ks : List CK) (x y : PV) : Option Bool := if x.okc ks.length ag = true ∧ y.okc ks.length ag = true then sameK ks x.cells y.cells else none
/-- the first place of a key -/
def kfindGo (ag : Bool) (ks : List CK) (k : PV) : List PV → Nat → Option (Option Nat)
 | [], _ => some none
 | x :: xs, i => match keq ag ks k x with
  | some true => some (some i)
  | some false => kfindGo ag ks k xs (i + 1)
  | none => none
def kfind (ag : Bool) (ks : List CK) (k : PV) (xs : List PV) : Option (Option Nat) := if k.okc ks.length ag then kfindGo ag ks k xs 0 else none
end PV
/-- 2 ^ 47 -/
def roomB : Nat := 140737488355328
def Prim.ev : Prim → List PV → Option PV
 | .idx n a, [.sl l, .int _ i] => if 0 ≤ i then match l[i.toNat]? with
   | some x => if x.okc n a then some x else none
   | none => none else none
 | .idx n a, [.msl l, .int _ i] => if 0 ≤ i then match l[i.toNat]? with
   | some x => if x.okc n a then some x else none
   | none => none else none
 | .aidx k n a, [.agg l, .int _ i] => if 0 ≤ i ∧ i < k ∧ l.length = k * n then (if a then (if (PV.agg ((l.drop (i.toNat * n)).take n)).okc n true then some (.agg ((l.drop (i.toNat * n)).take n)) else none) else match l[i.toNat * n]? with
   | some y => if y.okc n false then some y else none
   | none => none) else none
 | .len, [.sl l] => some (.int .i64 l.length)
 | .len, [.msl l] => some (.int .i64 l.length)
 | .slen, [.str s] => some (.int .i64 s.size)
 | .arith op k, [.int k1 x, .int k2 y] => if k1 = k ∧ (k2 = k ∨ op = .shl ∨ op = .shr) then (arithV op k x y).map (.int k) else none
 | .cmp op k, [.int k1 x, .int k2 y] => if k1 = k ∧ k2 = k then (cmpV op x y).map .bool else none
 | .scmp op, [.str x, .str y] => (scmpV op x y).map .bool
 | .bcmp op, [.bool x, .bool y] => (bcmpV op x y).map .bool
 | .acmp op ks, [.agg x, .agg y] => if x.length = ks.length ∧ y.length = ks.length then (match op with
   | .eql => (PV.sameK ks x y).map .bool
   | .neq => (PV.sameK ks x y).map fun b => .bool (!b)
   | _ => none) else none
 | .cat, [.str x, .str y] => if x.size + y.size ≤ maxLen then some (.str (x ++ y)) else none
 | .sidx, [.str s, .int _ i] => if 0 ≤ i then (s[i.toNat]?).map fun b => .int .u8 b.toNat else none
 | .bnot, [.bool b] => some (.bool (!b))
 | .neg k, [.int k1 x] => if k1 = k then some (.int k (k.wrap (0 - x))) else none
 | .conv k, [.int _ x] => some (.int k (k.wrap x))
 | .okc n a, [x] => if x.okc n a then some x else none
 | .okcs l, xs => if l.length = xs.length ∧ (l.zip xs).all (fun p => p.2.okc p.1.1 p.1.2) then some .nilI else none
 | .tc i, [.tup l] => l[i]?
 | .app n a b, [.sl l, .sl m] => if m.all (·.okc n a) ∧ (l.length + m.length) * b ≤ roomB ∧ l.length + m.length ≤ maxLen then some (.sl (l ++ m)) else none
 | .app n a b, [.sl l, .msl m] => if m.all (·.okc n a) ∧ (l.length + m.length) * b ≤ roomB ∧ l.length + m.length ≤ maxLen then some (.sl (l ++ m)) else none
 | .lst n a, l => if l.all (·.okc n a) then some (.sl l) else none
 | .slc n a, [.sl l, .int _ i, .int _ j] => if 0 ≤ i ∧ i ≤ j ∧ j ≤ l.length ∧ l.all (·.okc n a) then some (.sl ((l.take j.toNat).drop i.toNat)) else none
 | .slcF n a, [.sl l, .int _ i] => if 0 ≤ i ∧ i ≤ l.length ∧ l.all (·.okc n a) then some (.sl (l.drop i.toNat)) else none
 | .slcT n a, [.sl l, .int _ j] => if 0 ≤ j ∧ j ≤ l.length ∧ l.all (·.okc n a) then some (.sl (l.take j.toNat)) else none
 | .ssl, [.str s, .int _ i, .int _ j] => if 0 ≤ i ∧ i ≤ j ∧ j ≤ s.size then some (.str (s.extract i.toNat j.toNat)) else none
 | .sslF, [.str s, .int _ i] => if 0 ≤ i ∧ i ≤ s.size then some (.str (s.extract i.toNat s.size)) else none
 | .sslT, [.str s, .int _ j] => if 0 ≤ j ∧ j ≤ s.size then some (.str (s.extract 0 j.toNat)) else none
 | .updF n off m g, [.sl l, .int _ i, x] => if 0 ≤ i ∧ i < l.length ∧ off + m ≤ n ∧ x.okc m g then match l[i.toNat]? with
   | some e => if e.okc n true then some (.sl (l.set i.toNat (.agg (e.cells.take off ++ x.cells ++ e.cells.drop (off + m))))) else none
   | none => none else none
 | .upd n a, [.sl l, .int _ i, x] => if 0 ≤ i ∧ i < l.length ∧ x.okc n a then some (.sl (l.set i.toNat x)) else none
 | .rep n a b z, [.int _ i] => if 0 ≤ i ∧ i.toNat * b ≤ roomB ∧ i ≤ maxLen ∧ z.okc n a then some (.sl (List.replicate i.toNat z)) else none
 | .pick, [.bool c, x, y] => some (if c then x else y)
 | .mn k, [.int k1 x, .int k2 y] => if k1 = k ∧ k2 = k then some (.int k (if y < x then y else x)) else none
 | .mx k, [.int k1 x, .int k2 y] => if k1 = k ∧ k2 = k then some (.int k (if y > x then y else x)) else none
 | .notnil, [.fn f a c] => some (.fn f a c)
 | .notnil, [.box x] => some (.box x)
 | .pnil pos, [.nilP] => some (.bool pos)
 | .pnil pos, [.box _] => some (.bool (!pos))
 | .gnd, [x] => if x.ground then some x else none
 | .sid, [.str s] => some (.str s)
 | .unbox n a, [.box x] => if x.okc n a then some x else none
 | .mget g kk z, [.mp ks vs, k] => match PV.kfind g kk k ks with
  | some (some i) => vs[i]?
  | some none => some z
  | none => none
 | .mget2 g kk z, [.mp ks vs, k] => match PV.kfind g kk k ks with
  | some (some i) => (vs[i]?).map fun v => .tup [v, .bool true]
  | some none => some (.tup [z, .bool false])
  | none => none
 | .mset g kk, [.mp ks vs, k, v] => match PV.kfind g kk k ks with
  | some (some i) => some (.mp (ks.set i k) (vs.set i v))
  | some none => some (.mp (ks ++ [k]) (vs ++ [v]))
  | none => none
 | .mdel g kk, [.mp ks vs, k] => match PV.kfind g kk k ks with
  | some (some i) => some (.mp (ks.eraseIdx i) (vs.eraseIdx i))
  | some none => some (.mp ks vs)
  | none => none
 | .mlen, [.mp ks _] => some (.int .i64 ks.length)
 | .aupd n, [.agg l, .int _ i, x] => if 0 ≤ i ∧ i < n ∧ (PV.agg l).okc n true = true ∧ x.okc 1 false = true then some (.agg (l.set i.toNat x)) else none
 | .asl n, [.agg l] => if l.length = n ∧ l.all PV.isCell ∧ Nat.beq Mk.n 0 = true then some (.sl l) else none
 | _, _ => none
def Prim.isLen : Prim → Bool
 | .len => true
 | _ => false
/-- what is known besides, where the operation is done -/
def Prim.post : Prim → List PV → Prop
 | .len, [.sl l] => l.length ≤ maxLen
 | .len, [.msl l] => l.length ≤ maxLen
 | _, _ => True
inductive T (α : Type) where
 | ret (x : α)
 | fail
 | l (p : Prim) (xs : List α) (k : α → T α)
 | ite (c : α) (a b : T α)
 | nilq (x : α) (a b : T α)
 | call (f : Nat) (xs : List α) (k : α → T α)
 | callv (x : α) (xs : List α) (k : α → T α)
 | calls (f : Nat) (s : Sig) (xs : List α) (k : List α → T α)
 | callvs (x : α) (s : Sig) (xs : List α) (k : List α → T α)
 | loop (xs : List α) (body : List α → T α)
 | cont (lvl : Nat) (xs : List α)
 /-- the party is called with elements, in a state -/
 | yld (xs : List α) (s : α) (k : α → α → T α)
 /-- a call of a function that is handed the party's function -/
 | callx (f : Nat) (xs : List (Option α)) (s : α) (k : α → α → T α)
 /-- a range over a function: for each of the elements that it gives; the body where it goes on to the next element, and where it leaves -/
 | iter (x : α) (n : Nat) (xs : List α) (bodyC bodyS : List α → List α → T α) (after : List α → T α)
 /-- the same over a closure that has cells of its own: its function, their form, what they hold -/
 | iterS (f : Nat) (s : Sig) (ins : List α) (n : Nat) (xs : List α) (bodyC bodyS : List α → List α → T α) (after : List α → T α)
/-- what is asked of the party -/
def XtC (P : Program) (X : Xt) : Prop := ∀ (F : Nat → Nat → Prop) (w : World) (vs : Array Value) (ys : List PV) (bs : List Nat) (x x' : PV) (b : Bool), (∀ b o, F b o → b < w.heap.size) → Reps F w vs ys → XJ X F w bs x → X.step x ys = some (b, x') →
 ∃ l f tmps assign body, X.yv = .func (.yield l) #[] #[] ∧ (Instr.yield l vs).run P w = .ok (.round l f tmps assign body) w ∧ RoundIn Fence.wide 0 P l f tmps assign body w fun e w' =>
  e = .returned (.bool b) ∧ ∃ bs', Kp (· ∈ bs) w w' ∧ (∀ b o, X.F0 b o → Same w w' b o) ∧ XJ X F w' bs' x' ∧ (∀ b ∈ bs, b ∈ bs') ∧ ∀ b ∈ bs', b ∈ bs ∨ w.heap.size ≤ b
/-- a call of a function that is handed the party's function ('none'): it comes to an end, returns what reads as 'r', and the party has come from state x to x' -/
def OkX (P : Program) (f : Nat) (as : List (Option PV)) (x r x' : PV) : Prop :=
 Enters P f ∧ ∀ F w vs bs, (∀ b o, F b o → b < w.heap.size) → GlOk F w → vs.size = as.length → (∀ (i : Nat) (v : Value) (a : Option PV), vs[i]? = some v → as[i]? = some a → match a with
   | none => v = Gl.x.yv
   | some y => Rep F w v y) → XJ Gl.x F w bs x →
  Calls P f vs w fun e w' => ∃ v F' bs', e = .returned v ∧ Kp (· ∈ bs) w w' ∧ (∀ b o, F b o → F' b o ∧ Same w w' b o) ∧ (∀ b o, F' b o → F b o ∨ w.heap.size ≤ b ∨ b ∈ bs) ∧ (∀ b o, F' b o → b < w'.heap.size) ∧
   Rep F' w' v r ∧ XJ Gl.x F' w' bs' x' ∧ ∀ b ∈ bs', b ∈ bs ∨ w.heap.size ≤ b
/-- a call of a closure that has cells of its own, and is handed the party's function ahead of them: it comes to an end, returns what reads as 'r', and the party has come from state x to x' -/
def OkXS (P : Program) (f : Nat) (s : Sig) (xs : List PV) (x r x' : PV) : Prop :=
 Enters P f ∧ ∀ F w vs ρ bs, (∀ b o, F b o → b < w.heap.size) → GlOk F w → vs.size = s.args.length + 1 → vs[0]? = some Gl.x.yv →
  (∀ (i : Nat) (v : Value) (a : SV PV), vs[i + 1]? = some v → (s.argsI xs)[i]? = some a → RepS F ρ w v a) → ObsR F ρ w (lookO (s.obsI xs)) → XJ Gl.x F w bs x → (∀ b ∈ bs, ¬ blocksOf ρ (s.obsI xs) b) →
  Calls P f vs w fun e w' => ∃ v F' bs', e = .returned v ∧ Kp (fun b => b ∈ bs ∨ blocksOf ρ (s.obsI xs) b) w w' ∧ (∀ b o, F b o → F' b o ∧ Same w w' b o) ∧ (∀ b o, F' b o → F b o ∨ w.heap.size ≤ b ∨ b ∈ bs ∨ blocksOf ρ (s.obsI xs) b) ∧ (∀ b o, F' b o → b < w'.heap.size) ∧
   Rep F' w' v r ∧ XJ Gl.x F' w' bs' x'
/-- the elements, one by one, till the party has enough; where these are not all of them: it has enough before they end -/
def Xt.runsF (X : Xt) (fin : Bool) : List (List PV) → PV → Option PV
 | [], x => if fin then some x else Option.none
 | y :: l, x => match X.step x y with
  | some (true, x') => X.runsF fin l x'
  | some (false, x') => some x'
  | Option.none => Option.none
/-- the closure gives these elements; where 'fin' is not so, and further ones -/
def ItsS (P : Program) (f : Nat) (s : Sig) (xs : List PV) (fin : Bool) (l : List (List PV)) : Prop := ∀ X : Xt, XtC P X → ∀ x x', X.runsF fin l x = some x' → @OkXS ‹Mk› { l := Gl.l, x := X } P f s xs x (.tup []) x'
/-- the elements, one by one, till the party has enough -/
def Xt.runs (X : Xt) : List (List PV) → PV → Option PV
 | [], x => some x
 | y :: l, x => match X.step x y with
  | some (true, x') => X.runs l x'
  | some (false, x') => some x'
  | Option.none => Option.none
/-- the value gives these elements -/
def ItsV (P : Program) (x : PV) (l : List (List PV)) : Prop := ∃ f caps, x = .fn f [] caps ∧ ∀ X : Xt, XtC P X → ∀ s s', X.runs l s = some s' → @OkX ‹Mk› { l := Gl.l, x := X } P f (none :: caps.map some) s (.tup []) s'
/-- what the text means: with these answers of the loops around, it comes to an answer that is one of K's -/
def T.den (P : Program) (K : PV → Prop) : T PV → List (List PV → Prop) → Prop
 | .ret x, _ => K x
 | .fail, _ => False
 | .l p xs k, hs => ∃ y, p.ev xs = some y ∧ (p.post xs → (k y).den P K hs)
 | .ite c a b, hs => (c = .bool true ∧ a.den P K hs) ∨ (c = .bool false ∧ b.den P K hs)
 | .nilq x a b, hs => ∃ l, x.unm = .sl l ∧ (l = [] → a.den P K hs) ∧ b.den P K hs
 | .call f xs k, hs => ∃ r, Ok P f xs r ∧ (k r).den P K hs
 | .callv x xs k, hs => ∃ r, OkV P x xs r ∧ (k r).den P K hs
 | .calls f s xs k, hs => ∃ ys, ys.length = s.nout ∧ OkS P f s xs ys ∧ (k ys).den P K hs
 | .callvs x s xs k, hs => ∃ ys, ys.length = s.nout ∧ OkVS P x s xs ys ∧ (k ys).den P K hs
 | .loop xs body, hs => ∃ n : Nat, (Nat.rec (motive := fun _ => List PV → Prop) (fun _ => False) (fun _ h ys => (body ys).den P K (hs ++ [h])) n) xs
 | .cont lvl xs, hs => match hs[lvl]? with
  | some h => h xs
  | none => False
 | .yld xs s k, hs => ∃ b s', Gl.x.step s xs = some (b, s') ∧ (k (.bool b) s').den P K hs
 | .callx f xs s k, hs => ∃ r s', OkX P f xs s r s' ∧ (k r s').den P K hs
 | .iter x n xs bodyC bodyS after, hs => ∃ l : List (List PV), ItsV P x l ∧ (∀ y ∈ l, y.length = n) ∧ (List.rec (motive := fun _ => List PV → Prop) (fun zs => (after zs).den P K hs)
   (fun y _ ih zs => (∃ zs', (bodyC y zs).den P K (hs ++ [fun us => us = zs']) ∧ ih zs') ∨ (bodyS y zs).den P K hs) l) xs
 | .iterS f s ins n xs bodyC bodyS after, hs => ∃ (fin : Bool) (l : List (List PV)), ItsS P f s ins fin l ∧ (∀ y ∈ l, y.length = n) ∧ (List.rec (motive := fun _ => List PV → Prop) (fun zs => fin = true ∧ (after zs).den P K hs)
   (fun y _ ih zs => (∃ zs', (bodyC y zs).den P K (hs ++ [fun us => us = zs']) ∧ ih zs') ∨ (bodyS y zs).den P K hs) l) xs
/-- the leaves of a reading -/
structure Alg (α : Type) where
 cst : PV → α
 cel : Nat → α → α
 sub : Nat → Nat → α → α
 ag : List α → α
 tp : List α → α
 bx : α → α
 fn : Nat → List α → List α → α
 nth : List α → Nat → α
def pvAlg : Alg PV where
 cst x := x
 cel o x := x.cells.getD o .nilI
 sub o n x := .agg ((x.cells.drop o).take n)
 ag l := .agg l
 tp l := .tup l
 bx x := .box x
 fn f a c := .fn f a c
 nth l i := l.getD i .nilI
end Go.Lf
/- The primitives, told backwards. -/
namespace Go.Lf
variable [Mk] [Gl]
section
variable {z : PV} {xs : List PV}
theorem ev_idx {n : Nat} {a : Bool} (h : (Prim.idx n a).ev xs = some z) : ∃ y l k i, xs = [y, .int k i] ∧ y.unm = .sl l ∧ 0 ≤ i ∧ l[i.toNat]? = some z ∧ z.okc n a = true := by
 unfold Prim.ev at h
 split at h <;> try (simp_all; done)
 all_goals
  rename_i l k i heq
  cases heq
  split at h
  ·split at h
   ·rename_i x hx
    split at h
    ·simp at h; subst h; exact ⟨_, l, k, i, rfl, rfl, ‹_›, hx, ‹_›⟩
    ·cases h
   ·cases h
  ·cases h
theorem ev_aupd {n : Nat} (h : (Prim.aupd n).ev xs = some z) : ∃ l k i x, xs = [.agg l, .int k i, x] ∧ 0 ≤ i ∧ i < n ∧ (PV.agg l).okc n true = true ∧ x.okc 1 false = true ∧ z = .agg (l.set i.toNat x) := by
 unfold Prim.ev at h
 split at h <;> try (simp_all; done)
 rename_i n' l k i x heq
 cases heq
 split at h
 ·rename_i hc
  simp at h; subst h
  exact ⟨l, k, i, x, rfl, hc.1, hc.2.1, hc.2.2.1, hc.2.2.2, rfl⟩
 ·cases h
theorem ev_aidx {k n : Nat} {a : Bool} (h : (Prim.aidx k n a).ev xs = some z) : ∃ l q i, xs = [.agg l, .int q i] ∧ 0 ≤ i ∧ i < k ∧ l.length = k * n ∧ z.okc n a = true ∧ ∀ j y, z.cells[j]? = some y → l[i.toNat * n + j]? = some y := by
 unfold Prim.ev at h
 split at h <;> try (simp_all; done)
 rename_i k' n' a' l q i heq
 cases heq
 split at h
 ·rename_i hc
  split at h
  ·rename_i ha
   subst ha
   split at h
   ·rename_i hk
    simp at h; subst h
    refine ⟨l, q, i, rfl, hc.1, hc.2.1, hc.2.2, hk, fun j y hj => ?_⟩
    simp only [PV.cells, List.getElem?_take, List.getElem?_drop] at hj
    split at hj
    ·exact hj
    ·cases hj
   ·cases h
  ·rename_i ha
   have ha' := Bool.eq_false_iff.2 ha
   subst ha'
   split at h
   ·rename_i y hy
    split at h
    ·rename_i hk
     simp at h; subst h
     refine ⟨l, q, i, rfl, hc.1, hc.2.1, hc.2.2, hk, fun j z hj => ?_⟩
     have hcells : y.cells = [y] := by
      have := (okc_cells hk).2
      cases y <;> simp_all [PV.isAg, PV.cells]
     rw [hcells] at hj
     cases j with
     | zero => simp at hj; subst hj; exact hy
     | succ j => simp at hj
    ·cases h
   ·cases h
 ·cases h
theorem ev_arith {op : BinOp} {k : IntKind} (h : (Prim.arith op k).ev xs = some z) : ∃ k2 x y r, xs = [.int k x, .int k2 y] ∧ (k2 = k ∨ op = .shl ∨ op = .shr) ∧ arithV op k x y = some r ∧ z = .int k r := by
 unfold Prim.ev at h
 split at h <;> try (simp_all; done)
 rename_i op' k' k1 x k2 y heq
 cases heq
 split at h
 ·rename_i hc
  simp only [Option.map_eq_some_iff] at h
  obtain ⟨r, hr, rfl⟩ := h
  obtain ⟨rfl, hk⟩ := hc
  exact ⟨k2, x, y, r, rfl, hk, hr, rfl⟩
 ·cases h
theorem ev_len (h : Prim.len.ev xs = some z) : ∃ y l, xs = [y] ∧ y.unm = .sl l ∧ z = .int .i64 l.length := by
 unfold Prim.ev at h
 split at h <;> try (simp_all; done)
 all_goals
  rename_i l heq
  cases heq
  simp at h; exact ⟨_, l, rfl, rfl, h.symm⟩
theorem ev_slen (h : Prim.slen.ev xs = some z) : ∃ s, xs = [.str s] ∧ z = .int .i64 s.size := by
 unfold Prim.ev at h
 split at h <;> try (simp_all; done)
theorem ev_cmp {op : BinOp} {k : IntKind} (h : (Prim.cmp op k).ev xs = some z) : ∃ x y r, xs = [.int k x, .int k y] ∧ cmpV op x y = some r ∧ z = .bool r := by
 unfold Prim.ev at h
 split at h <;> try (simp_all; done)
 rename_i op' k' k1 x k2 y heq
 cases heq
 split at h
 ·rename_i hc
  simp only [Option.map_eq_some_iff] at h
  obtain ⟨r, hr, rfl⟩ := h
  obtain ⟨rfl, rfl⟩ := hc
  exact ⟨x, y, r, rfl, hr, rfl⟩
 ·cases h
theorem ev_scmp {op : BinOp} (h : (Prim.scmp op).ev xs = some z) : ∃ x y r, xs = [.str x, .str y] ∧ scmpV op x y = some r ∧ z = .bool r := by
 unfold Prim.ev at h
 split at h <;> try (simp_all; done)
 rename_i op' x y heq
 cases heq
 simp only [Option.map_eq_some_iff] at h
 obtain ⟨r, hr, rfl⟩ := h
 exact ⟨x, y, r, rfl, hr, rfl⟩
theorem ev_bcmp {op : BinOp} (h : (Prim.bcmp op).ev xs = some z) : ∃ x y r, xs = [.bool x, .bool y] ∧ bcmpV op x y = some r ∧ z = .bool r := by
 unfold Prim.ev at h
 split at h <;> try (simp_all; done)
 rename_i op' x y heq
 cases heq
 simp only [Option.map_eq_some_iff] at h
 obtain ⟨r, hr, rfl⟩ := h
 exact ⟨x, y, r, rfl, hr, rfl⟩
theorem ev_acmp {op : BinOp} {ks : List CK} (h : (Prim.acmp op ks).ev xs = some z) : ∃ x y r, xs = [.agg x, .agg y] ∧ x.length = ks.length ∧ y.length = ks.length ∧ PV.sameK ks x y = some r ∧ ((op = .eql ∧ z = .bool r) ∨ (op = .neq ∧ z = .bool (!r))) := by
 unfold Prim.ev at h
 split at h <;> try (simp_all; done)
 rename_i op' n' x y heq
 cases heq
 split at h
 ·rename_i hc
  split at h
  ·simp only [Option.map_eq_some_iff] at h
   obtain ⟨r, hr, rfl⟩ := h
   exact ⟨x, y, r, rfl, hc.1, hc.2, hr, .inl ⟨rfl, rfl⟩⟩
  ·simp only [Option.map_eq_some_iff] at h
   obtain ⟨r, hr, rfl⟩ := h
   exact ⟨x, y, r, rfl, hc.1, hc.2, hr, .inr ⟨rfl, rfl⟩⟩
  ·cases h
 ·cases h
theorem ev_cat (h : Prim.cat.ev xs = some z) : ∃ x y, xs = [.str x, .str y] ∧ x.size + y.size ≤ maxLen ∧ z = .str (x ++ y) := by
 unfold Prim.ev at h
 split at h <;> try (simp_all; done)
 rename_i x y heq
 split at h
 ·simp at h; exact ⟨x, y, rfl, ‹_›, h.symm⟩
 ·cases h
theorem ev_sidx (h : Prim.sidx.ev xs = some z) : ∃ s k i b, xs = [.str s, .int k i] ∧ 0 ≤ i ∧ s[i.toNat]? = some b ∧ z = .int .u8 b.toNat := by
 unfold Prim.ev at h
 split at h <;> try (simp_all; done)
 rename_i s k i heq
 split at h
 ·simp only [Option.map_eq_some_iff] at h
  obtain ⟨b, hb, rfl⟩ := h
  exact ⟨s, k, i, b, rfl, ‹_›, hb, rfl⟩
 ·cases h
theorem ev_bnot (h : Prim.bnot.ev xs = some z) : ∃ b, xs = [.bool b] ∧ z = .bool (!b) := by
 unfold Prim.ev at h
 split at h <;> try (simp_all; done)
theorem ev_neg {k : IntKind} (h : (Prim.neg k).ev xs = some z) : ∃ x, xs = [.int k x] ∧ z = .int k (k.wrap (0 - x)) := by
 unfold Prim.ev at h
 split at h <;> try (simp_all; done)
theorem ev_conv {k : IntKind} (h : (Prim.conv k).ev xs = some z) : ∃ k' x, xs = [.int k' x] ∧ z = .int k (k.wrap x) := by
 unfold Prim.ev at h
 split at h <;> try (simp_all; done)
 rename_i k' k1 x heq
 cases heq
 simp at h
 exact ⟨k1, x, rfl, h.symm⟩
theorem ev_okc {n : Nat} {a : Bool} (h : (Prim.okc n a).ev xs = some z) : xs = [z] ∧ z.okc n a = true := by
 unfold Prim.ev at h
 split at h <;> try (simp_all; done)
 rename_i n' a' x heq
 cases heq
 split at h
 ·simp at h; subst h; exact ⟨rfl, ‹_›⟩
 ·cases h
theorem ev_tc {i : Nat} (h : (Prim.tc i).ev xs = some z) : ∃ l, xs = [.tup l] ∧ l[i]? = some z := by
 unfold Prim.ev at h
 split at h <;> try (simp_all; done)
theorem ev_app {n : Nat} {a : Bool} {b : Nat} (h : (Prim.app n a b).ev xs = some z) : ∃ l y m, xs = [.sl l, y] ∧ y.unm = .sl m ∧ m.all (·.okc n a) = true ∧ (l.length + m.length) * b ≤ roomB ∧ l.length + m.length ≤ maxLen ∧ z = .sl (l ++ m) := by
 unfold Prim.ev at h
 split at h <;> try (simp_all; done)
 all_goals
  rename_i n' a' b' l m heq
  cases heq
  split at h
  ·rename_i hc
   simp at h; exact ⟨l, _, m, rfl, rfl, hc.1, hc.2.1, hc.2.2, h.symm⟩
  ·cases h
theorem ev_okcs {l : List (Nat × Bool)} (h : (Prim.okcs l).ev xs = some z) : l.length = xs.length ∧ (l.zip xs).all (fun p => p.2.okc p.1.1 p.1.2) = true := by
 unfold Prim.ev at h
 split at h <;> try (simp_all; done)
theorem ev_lst {n : Nat} {a : Bool} (h : (Prim.lst n a).ev xs = some z) : xs.all (·.okc n a) = true ∧ z = .sl xs := by
 unfold Prim.ev at h
 split at h <;> try (simp_all; done)
theorem ev_slc {n : Nat} {a : Bool} (h : (Prim.slc n a).ev xs = some z) : ∃ l k i k' j, xs = [.sl l, .int k i, .int k' j] ∧ 0 ≤ i ∧ i ≤ j ∧ j ≤ l.length ∧ l.all (·.okc n a) = true ∧ z = .sl ((l.take j.toNat).drop i.toNat) := by
 unfold Prim.ev at h
 split at h <;> try (simp_all; done)
 rename_i n' a' l k i k' j heq
 cases heq
 split at h
 ·rename_i hc
  simp at h; exact ⟨l, k, i, k', j, rfl, hc.1, hc.2.1, hc.2.2.1, hc.2.2.2, h.symm⟩
 ·cases h
theorem ev_slcF {n : Nat} {a : Bool} (h : (Prim.slcF n a).ev xs = some z) : ∃ l k i, xs = [.sl l, .int k i] ∧ 0 ≤ i ∧ i ≤ l.length ∧ l.all (·.okc n a) = true ∧ z = .sl (l.drop i.toNat) := by
 unfold Prim.ev at h
 split at h <;> try (simp_all; done)
 rename_i n' a' l k i heq
 cases heq
 split at h
 ·rename_i hc
  simp at h; exact ⟨l, k, i, rfl, hc.1, hc.2.1, hc.2.2, h.symm⟩
 ·cases h
theorem ev_slcT {n : Nat} {a : Bool} (h : (Prim.slcT n a).ev xs = some z) : ∃ l k i, xs = [.sl l, .int k i] ∧ 0 ≤ i ∧ i ≤ l.length ∧ l.all (·.okc n a) = true ∧ z = .sl (l.take i.toNat) := by
 unfold Prim.ev at h
 split at h <;> try (simp_all; done)
 rename_i n' a' l k i heq
 cases heq
 split at h
 ·rename_i hc
  simp at h; exact ⟨l, k, i, rfl, hc.1, hc.2.1, hc.2.2, h.symm⟩
 ·cases h
theorem ev_ssl (h : Prim.ssl.ev xs = some z) : ∃ s k i k' j, xs = [.str s, .int k i, .int k' j] ∧ 0 ≤ i ∧ i ≤ j ∧ j ≤ s.size ∧ z = .str (s.extract i.toNat j.toNat) := by
 unfold Prim.ev at h
 split at h <;> try (simp_all; done)
 rename_i s k i k' j heq
 split at h
 ·rename_i hc
  simp at h; exact ⟨s, k, i, k', j, rfl, hc.1, hc.2.1, hc.2.2, h.symm⟩
 ·cases h
theorem ev_sslF (h : Prim.sslF.ev xs = some z) : ∃ s k i, xs = [.str s, .int k i] ∧ 0 ≤ i ∧ i ≤ s.size ∧ z = .str (s.extract i.toNat s.size) := by
 unfold Prim.ev at h
 split at h <;> try (simp_all; done)
 rename_i s k i heq
 split at h
 ·rename_i hc
  simp at h; exact ⟨s, k, i, rfl, hc.1, hc.2, h.symm⟩
 ·cases h
theorem ev_sslT (h : Prim.sslT.ev xs = some z) : ∃ s k i, xs = [.str s, .int k i] ∧ 0 ≤ i ∧ i ≤ s.size ∧ z = .str (s.extract 0 i.toNat) := by
 unfold Prim.ev at h
 split at h <;> try (simp_all; done)
 rename_i s k i heq
 split at h
 ·rename_i hc
  simp at h; exact ⟨s, k, i, rfl, hc.1, hc.2, h.symm⟩
 ·cases h
theorem ev_upd {n : Nat} {a : Bool} (h : (Prim.upd n a).ev xs = some z) : ∃ l k i x, xs = [.sl l, .int k i, x] ∧ 0 ≤ i ∧ i < l.length ∧ x.okc n a = true ∧ z = .sl (l.set i.toNat x) := by
 unfold Prim.ev at h
 split at h <;> try (simp_all; done)
 rename_i n' a' l k i x heq
 cases heq
 split at h
 ·rename_i hc
  simp at h; exact ⟨l, k, i, x, rfl, hc.1, hc.2.1, hc.2.2, h.symm⟩
 ·cases h
theorem ev_updF {n off m : Nat} {g : Bool} (h : (Prim.updF n off m g).ev xs = some z) : ∃ l k i x e, xs = [.sl l, .int k i, x] ∧ 0 ≤ i ∧ i < l.length ∧ off + m ≤ n ∧ x.okc m g = true ∧ l[i.toNat]? = some e ∧ e.okc n true = true ∧
  z = .sl (l.set i.toNat (.agg (e.cells.take off ++ x.cells ++ e.cells.drop (off + m)))) := by
 unfold Prim.ev at h
 split at h <;> try (simp_all; done)
 rename_i n' a' l k i x heq
 cases heq
 split at h
 ·rename_i hc
  split at h
  ·rename_i e he
   split at h
   ·rename_i hk
    have h := Option.some.inj h; exact ⟨l, k, i, x, e, rfl, hc.1, hc.2.1, hc.2.2.1, hc.2.2.2, he, hk, h.symm⟩
   ·cases h
  ·cases h
 ·cases h
theorem ev_rep {n : Nat} {a : Bool} {b : Nat} {u : PV} (h : (Prim.rep n a b u).ev xs = some z) : ∃ k i, xs = [.int k i] ∧ 0 ≤ i ∧ i.toNat * b ≤ roomB ∧ i ≤ maxLen ∧ u.okc n a = true ∧ z = .sl (List.replicate i.toNat u) := by
 unfold Prim.ev at h
 split at h <;> try (simp_all; done)
 rename_i n' a' b' u' k i heq
 cases heq
 split at h
 ·rename_i hc
  simp at h; exact ⟨k, i, rfl, hc.1, hc.2.1, hc.2.2.1, hc.2.2.2, h.symm⟩
 ·cases h
theorem ev_mn {k : IntKind} (h : (Prim.mn k).ev xs = some z) : ∃ x y, xs = [.int k x, .int k y] ∧ z = .int k (if y < x then y else x) := by
 unfold Prim.ev at h
 split at h <;> try (simp_all; done)
 rename_i k' k1 x k2 y heq
 cases heq
 split at h
 ·rename_i hc
  obtain ⟨rfl, rfl⟩ := hc
  simp only [Option.some.injEq] at h; exact ⟨x, y, rfl, h.symm⟩
 ·cases h
theorem ev_mx {k : IntKind} (h : (Prim.mx k).ev xs = some z) : ∃ x y, xs = [.int k x, .int k y] ∧ z = .int k (if y > x then y else x) := by
 unfold Prim.ev at h
 split at h <;> try (simp_all; done)
 rename_i k' k1 x k2 y heq
 cases heq
 split at h
 ·rename_i hc
  obtain ⟨rfl, rfl⟩ := hc
  simp only [Option.some.injEq] at h; exact ⟨x, y, rfl, h.symm⟩
 ·cases h
theorem ev_notnil (h : Prim.notnil.ev xs = some z) : xs = [z] ∧ ((∃ f a c, z = .fn f a c) ∨ ∃ x, z = .box x) := by
 unfold Prim.ev at h
 split at h <;> try (simp_all; done)
 ·simp at h; subst h; exact ⟨rfl, .inl ⟨_, _, _, rfl⟩⟩
 ·simp at h; subst h; exact ⟨rfl, .inr ⟨_, rfl⟩⟩
theorem ev_pnil {pos : Bool} (h : (Prim.pnil pos).ev xs = some z) : (xs = [.nilP] ∧ z = .bool pos) ∨ ∃ x, xs = [.box x] ∧ z = .bool (!pos) := by
 unfold Prim.ev at h
 split at h <;> simp_all
theorem ev_sid (h : Prim.sid.ev xs = some z) : ∃ s, xs = [.str s] ∧ z = .str s := by
 unfold Prim.ev at h
 split at h <;> try (simp_all; done)
 simp at h; exact ⟨_, rfl, h.symm⟩
theorem ev_unbox {n : Nat} {a : Bool} (h : (Prim.unbox n a).ev xs = some z) : xs = [.box z] ∧ z.okc n a = true := by
 unfold Prim.ev at h
 split at h <;> try (simp_all; done)
 rename_i n' a' x heq
 cases heq
 split at h
 ·simp at h; subst h; exact ⟨rfl, ‹_›⟩
 ·cases h
theorem ev_mget {g : Bool} {kk : List CK} {u : PV} (h : (Prim.mget g kk u).ev xs = some z) : ∃ ks vs k, xs = [.mp ks vs, k] ∧ ((∃ i, PV.kfind g kk k ks = some (some i) ∧ vs[i]? = some z) ∨ (PV.kfind g kk k ks = some none ∧ z = u)) := by
 unfold Prim.ev at h
 split at h <;> try (simp_all; done)
 rename_i g' kk' u' ks vs k heq
 cases heq
 split at h
 ·exact ⟨ks, vs, k, rfl, .inl ⟨_, ‹_›, h⟩⟩
 ·simp at h; exact ⟨ks, vs, k, rfl, .inr ⟨‹_›, h.symm⟩⟩
 ·cases h
theorem ev_mget2 {g : Bool} {kk : List CK} {u : PV} (h : (Prim.mget2 g kk u).ev xs = some z) : ∃ ks vs k, xs = [.mp ks vs, k] ∧ ((∃ i v, PV.kfind g kk k ks = some (some i) ∧ vs[i]? = some v ∧ z = .tup [v, .bool true]) ∨ (PV.kfind g kk k ks = some none ∧ z = .tup [u, .bool false])) := by
 unfold Prim.ev at h
 split at h <;> try (simp_all; done)
 rename_i g' kk' u' ks vs k heq
 cases heq
 split at h
 ·simp only [Option.map_eq_some_iff] at h
  obtain ⟨v, hv, rfl⟩ := h
  exact ⟨ks, vs, k, rfl, .inl ⟨_, v, ‹_›, hv, rfl⟩⟩
 ·simp at h; exact ⟨ks, vs, k, rfl, .inr ⟨‹_›, h.symm⟩⟩
 ·cases h
theorem ev_mset {g : Bool} {kk : List CK} (h : (Prim.mset g kk).ev xs = some z) : ∃ ks vs k v, xs = [.mp ks vs, k, v] ∧ ((∃ i, PV.kfind g kk k ks = some (some i) ∧ z = .mp (ks.set i k) (vs.set i v)) ∨ (PV.kfind g kk k ks = some none ∧ z = .mp (ks ++ [k]) (vs ++ [v]))) := by
 unfold Prim.ev at h
 split at h <;> try (simp_all; done)
 rename_i g' kk' ks vs k v heq
 cases heq
 split at h
 ·simp at h; exact ⟨ks, vs, k, v, rfl, .inl ⟨_, ‹_›, h.symm⟩⟩
 ·simp at h; exact ⟨ks, vs, k, v, rfl, .inr ⟨‹_›, h.symm⟩⟩
 ·cases h
theorem ev_mdel {g : Bool} {kk : List CK} (h : (Prim.mdel g kk).ev xs = some z) : ∃ ks vs k, xs = [.mp ks vs, k] ∧ ((∃ i, PV.kfind g kk k ks = some (some i) ∧ z = .mp (ks.eraseIdx i) (vs.eraseIdx i)) ∨ (PV.kfind g kk k ks = some none ∧ z = .mp ks vs)) := by
 unfold Prim.ev at h
 split at h <;> try (simp_all; done)
 rename_i g' kk' ks vs k heq
 cases heq
 split at h
 ·simp at h; exact ⟨ks, vs, k, rfl, .inl ⟨_, ‹_›, h.symm⟩⟩
 ·simp at h; exact ⟨ks, vs, k, rfl, .inr ⟨‹_›, h.symm⟩⟩
 ·cases h
theorem ev_mlen (h : Prim.mlen.ev xs = some z) : ∃ ks vs, xs = [.mp ks vs] ∧ z = .int .i64 ks.length := by
 unfold Prim.ev at h
 split at h <;> try (simp_all; done)
end
end Go.Lf
/- The reading of one operation. -/
namespace Go.Lf
variable [Mk] [Gl]
def aRef {α : Type} (d : Nat) : A α → Bool
 | .ptr o _ => Nat.beq o d
 | .own o => Nat.beq o d
 | .eptr o _ _ _ => Nat.beq o d
 | .aptr o _ => Nat.beq o d
 | .mref o => Nat.beq o d
 | .clo _ a c => (a.any fun p => Nat.beq p.1 d) || c.any fun p => Nat.beq p.1 d
 | _ => false
section
variable {α : Type}
def has (l : List Nat) (x : Nat) : Bool := l.any (Nat.beq x)
def aRefs : A α → List Nat
 | .ptr o _ => [o]
 | .own o => [o]
 | .eptr o _ _ _ => [o]
 | .aptr o _ => [o]
 | .mref o => [o]
 | .clo _ a c => a.map (·.1) ++ c.map (·.1)
 | _ => []
def svRefs : SV α → List Nat
 | .at x => aRefs x
 | .agg l => l.flatMap aRefs
def obRefsA : Ob α → List Nat
 | .cells _ _ _ (.pts l) => l.flatMap aRefs
 | _ => []
end
structure St (α : Type) where
 tm : List (Nat × Option (SV α))
 ob : List (Nat × Option (Ob α))
 dep : Nat := 0
 /-- how many temporaries there are -/
 nt : Nat := 0
 /-- temporaries and objects that are as they were at the head of the loop around -/
 kt : List Nat := []
 ko : List Nat := []
 /-- names that keep the handles that came in -/
 al : List Nat := []
def St.gt {α : Type} (s : St α) (t : Nat) : Option (SV α) := look s.tm t
def St.go {α : Type} (s : St α) (o : Nat) : Option (Ob α) := look s.ob o
structure Dl (α : Type) where
 dst : Option (SV α)
 obs : List (Nat × Option (Ob α)) := []
 /-- names that are given anew -/
 born : List Nat := []
inductive Cmd (α : Type) where
 | pure (d : Dl α)
 | prim (p : Prim) (xs : List α) (d : α → Dl α)
 | call (f : Nat) (xs : List α) (d : α → Dl α)
 /-- a call that looks at memory which is still being written: it hands back plain values -/
 | callg (f : Nat) (xs : List α) (d : α → Dl α)
 | callv (x : α) (xs : List α) (d : α → Dl α)
 | calls (f : Nat) (s : Sig) (xs : List α) (d : List α → Dl α)
 | callvs (x : α) (s : Sig) (xs : List α) (d : List α → Dl α)
 | len (x : α)
 | nilq (x : α) (pos : Bool)
 /-- the party is called -/
 | yld (xs : List α) (s : α) (d : α → α → Dl α)
 | callx (f : Nat) (xs : List (Option α)) (s : α) (d : α → α → Dl α)
 | fail
/-- hints: what is born to be written (by the place that makes it) -/
structure Hint where
 /-- boxes and arrays that are written after they are made -/
 wr : List Nat := []
 /-- functions that are called with memory -/
 sigs : List (Nat × Sig) := []
 /-- functions that only look at what is behind their arguments, and hand back plain values -/
 ro : List Nat := []
 /-- a nil slice in a variable's cell that is told as an array of the call's own: the variable's pointer, the cell, the element's type, is it never written -/
 nl : List (Nat × Nat × Nat × Bool) := []
 /-- what is behind a temporary is told as if it was not written any more, from a region on: the region, the temporary -/
 fz : List (Nat × Nat) := []
 /-- temporaries that are told as data at a loop's head, though an array of the call's own stands there first -/
 da : List Nat := []
def lookE {β : Type} : List (Nat × β) → Nat → Option β
 | [], _ => none
 | (k, v) :: r, t => if Nat.beq k t then some v else lookE r t
/-- the form of a call at a place: the place's own (2000000 and the result's number), or the function's -/
def Hint.sigAt (H : Hint) (d f : Nat) : Option Sig := match lookE H.sigs (2000000 + d) with
 | some s => some s
 | none => lookE H.sigs f
section
variable {α : Type} (A' : Alg α) (P : Program) (H : Hint)
def tsz (t : Nat) : Option Nat := (P.info? t).map (·.size)
def tby (t : Nat) : Option Nat := (P.info? t).map (·.bytes)
def tag (t : Nat) : Bool := match P.underlying t with
 | some (.struct _) => true
 | some (.array _ _) => true
 | _ => false
/-- the same, where the type is known -/
def tagS (t : Nat) : Option Bool := (P.underlying t).map fun d => match d with
 | .struct _ => true
 | .array _ _ => true
 | _ => false
def tel (t : Nat) : Option Nat := match P.underlying t with
 | some (.slice e) => some e
 | _ => none
def tkind (t : Nat) : Option IntKind := match P.underlying t with
 | some (.int k) => some k
 | _ => none
def cstV : Value → Option PV
 | .bool b => some (.bool b)
 | .int k n => some (.int k n)
 | .string s => some (.str s)
 | .slice none 0 0 => some (.sl [])
 | .nilFunc => some .nilF
 | .nilIface => some .nilI
 | .pointer none => some .nilP
 | .map none => some .nilM
 | _ => none
def cstA (v : Value) : Option (A α) :=
 match v with
 | .bool b => some (.kb b)
 | .slice none 0 0 => some .nils
 | v => (cstV v).map fun x => A.dat (A'.cst x)
def cstS (v : Value) : Option (SV α) :=
 match v with
 | .bool b => some (.at (.kb b))
 | .slice none 0 0 => some (.at .nils)
 | .agg cs => (cs.toList.mapM (cstA A')).map SV.agg
 | v => (cstV v).map fun x => .at (.dat (A'.cst x))
def opv (s : St α) : Operand → Option (SV α)
 | .tmp t => s.gt t
 | .const v => cstS A' v
 | .func f => some (.at (.dat (A'.fn f [] [])))
 | .global g => (lookE Gl.l g).map fun e => .at (.bptr (A'.cst e.1) e.2.1 e.2.2 0)
/-- what an atom reads as, where that is plain data -/
def asA (s : St α) : A α → Option α
 | .dat x => some x
 | .kb b => some (A'.cst (.bool b))
 | .nils => some (A'.cst (.sl []))
 | .own o => match s.go o with
  | some (.arr true _ _ _ x) => some x
  | _ => none
 | .mref o => match s.go o with
  | some (.map true x) => some x
  | _ => none
 | .ptr o 0 => match s.go o with
  | some (.cells true _ _ (.wh x)) => some (A'.bx x)
  | _ => none
 | .bptr x _ _ 0 => some (A'.bx x)
 | _ => none
def asE (s : St α) : SV α → Option α
 | .at x => asA A' s x
 | .agg l => (l.mapM (asA A' s)).map A'.ag
/-- the content of a slice, its array frozen or not -/
def asL (s : St α) : SV α → Option α
 | .at (.own o) => match s.go o with
  | some (.arr _ _ _ _ x) => some x
  | _ => none
 | x => asE A' s x
def put (dst : SV α) : Dl α := { dst := some dst, obs := [] }
def putE (x : α) : Dl α := { dst := some (.at (.dat x)), obs := [] }
def loadCs (n : Nat) (ag : Bool) (cs : Cs α) (m : Nat) (mag : Bool) (off : Nat) : Option (SV α) :=
 match cs with
 | .wh x =>
  if mag then
   if ag && off == 0 && m == n then some (.at (.dat x)) else if ag && decide (off + m ≤ n) then some (.at (.dat (A'.sub off m x))) else none
  else if m == 1 && decide (off < n) then (if ag then some (.at (.dat (A'.cel off x))) else some (.at (.dat x))) else none
 | .pts l =>
  if mag then (if decide (off + m ≤ n) then some (.agg ((l.drop off).take m)) else none)
  else if m == 1 then (l[off]?).map .at else none
def explode (n : Nat) (ag : Bool) : Cs α → List (A α)
 | .wh x => if ag then (List.range n).map fun j => .dat (A'.cel j x) else [.dat x]
 | .pts l => l
def svCells (m : Nat) (mag : Bool) : SV α → Option (List (A α))
 | .at (.dat x) => if mag then some ((List.range m).map fun j => .dat (A'.cel j x)) else if m == 1 then some [.dat x] else none
 | .at .und => none
 | .at x => if mag == false && m == 1 then some [x] else none
 | .agg l => if mag && l.length == m then some l else none
/-- a store of a value of a type (m cells, mag) at off; the check that it needs first: a datum that must be an aggregate of m -/
def storeCs (n : Nat) (ag : Bool) (cs : Cs α) (m : Nat) (mag : Bool) (off : Nat) (v : SV α) : Option (Cs α) :=
 if off == 0 && m == n && mag == ag then
  match v with
  | .at (.dat x) => some (.wh x)
  | v => (svCells A' m mag v).map .pts
 else if mag == false && m != 1 then none
 else if decide (off + m ≤ n) then (svCells A' m mag v).map fun l => .pts ((explode A' n ag cs).take off ++ l ++ (explode A' n ag cs).drop (off + m)) else none
/-- where a datum is put into a variable of an aggregate type, its form is asked -/
def guardPut (m : Nat) (mag : Bool) (v : SV α) (k : SV α → Option (Dl α)) : Option (Cmd α) :=
 match v with
 | .at (.dat x) => (k v).bind fun _ => some (.prim (.okc m mag) [x] fun y => (k (.at (.dat y))).getD { dst := none })
 | v => (k v).map .pure
def zA : PV → A α
 | .bool b => .kb b
 | .sl [] => .nils
 | x => .dat (A'.cst x)
def zeroCells (t : Nat) : Option (List PV) := (P.info? t).bind fun i => i.zero.bind fun z => z.cells.toList.mapM cstV
def storeAtP (s : St α) (a : A α) (m : Nat) (mag : Bool) (v : SV α) : Option (Dl α) :=
 match a with
 | .ptr o off => match s.go o with
  | some (.cells false n ag cs) => (storeCs A' n ag cs m mag off v).map fun cs' => { dst := none, obs := [(o, some (.cells false n ag cs'))] }
  | _ => none
 | _ => none
/-- the cells of a variable that is an aggregate, as one datum -/
def wholeCs (s : St α) (n : Nat) : Cs α → Option α
 | .wh x => some x
 | .pts l => if l.length == n then (l.mapM (asA A' s)).map A'.ag else none
def dlLoad (s : St α) (t : Nat) (a : A α) : Option (Cmd α) := do
 let m ← tsz P t
 let mag ← tagS P t
 match a with
 | .ptr o off => match s.go o with
  | some (.cells _ n ag cs) => do let v ← loadCs A' n ag cs m mag off; some (.pure (put v))
  | _ => none
 | .bptr x n ag off => do let v ← loadCs A' n ag (.wh x) m mag off; some (.pure (put v))
 | .aptr o i => match s.go o with
  | some (.cells _ n true cs) => if m == 1 && mag == false then (wholeCs A' s n cs).map fun x => .prim (.aidx n 1 false) [x, i] putE else none
  | _ => none
 | .eptr o i sz off => match s.go o with
  | some (.arr _ _ sz' ag x) => if sz' == sz && off == 0 && m == sz && ag == mag then some (.prim (.idx sz ag) [x, i] putE) else none
  | _ => none
 | .dat x => some (.prim (.unbox m mag) [x] putE)
 | _ => none
/-- numbers, bools, strings, and structs and arrays of these: the kinds of all cells; '==' compares them one by one -/
def flatF (g : Nat → Option (List CK)) : List Field → Nat → Option (List CK)
 | [], _ => some []
 | f :: fs, off => if f.name != "_" && f.offset == off then (g f.type).bind fun ks => (flatF g fs (off + ks.length)).map fun r => ks ++ r else none
def flatK : Nat → Nat → Option (List CK)
 | 0, _ => none
 | n + 1, t => match P.underlying t, tsz P t with
  | some (.int k), some 1 => some [.i k]
  | some .bool, some 1 => some [.b]
  | some .string, some 1 => some [.s]
  | some (.struct fs), some m => if !P.stoodInHeld t then (flatF (flatK n) fs.toList 0).bind fun ks => if ks.length == m then some ks else none else none
  | some (.array k e), some m => (flatK n e).bind fun ks => if tsz P e == some ks.length && m == k * ks.length then some ((List.replicate k ks).flatten) else none
  | _, _ => none
def dlBin (s : St α) (op : BinOp) (t : Nat) (x y : SV α) : Option (Cmd α) :=
 match op, x, y with
 | .eql, x, .at .nils => (tel P t).bind fun _ => (asE A' s x).map fun u => .nilq u true
 | .neq, x, .at .nils => (tel P t).bind fun _ => (asE A' s x).map fun u => .nilq u false
 | _, _, _ => bin
where
 bin : Option (Cmd α) := do
  let u ← asE A' s x
  let v ← asE A' s y
  match P.underlying t with
  | some (.int k) => match op with
   | .eql | .neq | .lss | .leq | .gtr | .geq => some (.prim (.cmp op k) [u, v] putE)
   | _ => some (.prim (.arith op k) [u, v] putE)
  | some .string => match op with
   | .add => some (.prim .cat [u, v] putE)
   | _ => some (.prim (.scmp op) [u, v] putE)
  | some .bool => some (.prim (.bcmp op) [u, v] putE)
  | some (.struct _) | some (.array _ _) => do let n ← tsz P t; (flatK P 8 t).bind fun ks => if ks.length == n && P.eqGuardType P.depth t == false then some (.prim (.acmp op ks) [u, v] putE) else none
  | _ => none
def dlAppend (s : St α) (d : Nat) (t : Nat) (x y : SV α) : Option (Cmd α) := do
 let e ← tel P t
 let sz ← tsz P e
 let by' ← tby P e
 let ag := tag P e
 let v ← asL A' s y
 let z ← zeroCells P e
 if z.length == sz && Nat.blt 0 sz then
  match x with
  | .at (.own o) => match s.go o with
   | some (.arr fz ty sz' ag' u) => if ty == e && sz' == sz && ag' == ag then
     some (.prim (.app sz ag by') [u, v] fun z => { dst := some (.at (.own d)), obs := [(o, none), (d, some (.arr fz ty sz ag z))], born := [d] }) else none
   | _ => none
  | .at .nils => some (.prim (.app sz ag by') [A'.cst (.sl []), v] fun z => { dst := some (.at (.own d)), obs := [(d, some (.arr (!H.wr.contains d) e sz ag z))], born := [d] })
  | _ => none
 else none
def asLM (s : St α) : SV α → Option α
 | .at (.mref o) => match s.go o with
  | some (.map _ x) => some x
  | _ => none
 | v => asL A' s v
def dlLen (s : St α) (t : Nat) (x : Operand) : Option (Cmd α) := do
 let v ← (opv A' s x).bind (asLM A' s)
 match P.underlying t with
 | some .string => some (.prim .slen [v] putE)
 | some (.slice _) => some (.len v)
 | some (.map _ _) => some (.prim .mlen [v] putE)
 | _ => none
def dlApp (s : St α) (d t : Nat) (x y : Operand) : Option (Cmd α) :=
 (opv A' s x).bind fun u => (opv A' s y).bind fun v => dlAppend A' P H s d t u v
def dlMm (s : St α) (t : Nat) (p : IntKind → Prim) (x y : Operand) : Option (Cmd α) := do
 let u ← (opv A' s x).bind (asE A' s)
 let v ← (opv A' s y).bind (asE A' s)
 let k ← tkind P t
 some (.prim (p k) [u, v] putE)
/-! a call with memory: the form's names are bound to the state's, its leaves to what is there -/
structure Bind (α : Type) where
 ids : List (Nat × Nat)
 lv : List (Nat × α)
/-- bind a name; a name that is bound already must be bound so -/
def Bind.id (b : Bind α) (o o' : Nat) : Option (Bind α) := match lookE b.ids o with
 | some u => if Nat.beq u o' then some b else none
 | none => some { b with ids := (o, o') :: b.ids }
def Bind.leaf (b : Bind α) (i : Nat) (x : α) : Option (Bind α) := match lookE b.lv i with
 | some _ => none
 | none => some { b with lv := (i, x) :: b.lv }
def Bind.ps (b : Bind α) : List (Nat × Nat) → List (Nat × Nat) → Option (Bind α)
 | [], [] => some b
 | p :: ps, q :: qs => if Nat.beq p.2 q.2 then (b.id p.1 q.1).bind fun b => b.ps ps qs else none
 | _, _ => none
def Bind.a (s : St α) (b : Bind α) : A Nat → A α → Option (Bind α)
 | .dat i, x => (asA A' s x).bind fun x => b.leaf i x
 | .nils, .nils => some b
 | .ptr o off, .ptr o' off' => if Nat.beq off off' then b.id o o' else none
 | .own o, .own o' => b.id o o'
 | .mref o, .mref o' => b.id o o'
 | .clo f a c, .clo f' a' c' => if Nat.beq f f' then (b.ps a a').bind fun b => b.ps c c' else none
 | _, _ => none
def Bind.as (s : St α) (b : Bind α) : List (A Nat) → List (A α) → Option (Bind α)
 | [], [] => some b
 | p :: ps, q :: qs => (b.a A' s p q).bind fun b => b.as s ps qs
 | _, _ => none
def Bind.sv (s : St α) (b : Bind α) : SV Nat → SV α → Option (Bind α)
 | .at (.dat i), x => (asE A' s x).bind fun x => b.leaf i x
 | .at p, .at q => b.a A' s p q
 | .agg ps, .agg qs => b.as A' s ps qs
 | _, _ => none
def Bind.svs (s : St α) (b : Bind α) : List (SV Nat) → List (SV α) → Option (Bind α)
 | [], [] => some b
 | p :: ps, q :: qs => (b.sv A' s p q).bind fun b => b.svs s ps qs
 | _, _ => none
def Bind.ob (s : St α) (b : Bind α) : Ob Nat → Ob α → Option (Bind α)
 | .cells false n ag (.pts l), .cells false n' ag' cs => if n == n' && ag == ag' then b.as A' s l (explode A' n ag cs) else none
 | .arr fz ty sz ag i, .arr fz' ty' sz' ag' x => if fz == fz' && ty == ty' && sz == sz' && ag == ag' then b.leaf i x else none
 | .map false i, .map false x => b.leaf i x
 | _, _ => none
def Bind.obs (s : St α) (b : Bind α) : List (Nat × Ob Nat) → Option (Bind α)
 | [] => some b
 | (o, p) :: ps => match lookE b.ids o with
  | some o' => match s.go o' with
   | some q => (b.ob A' s p q).bind fun b => b.obs s ps
   | none => none
  | none => none
/-- a form's name, in the state: bound, or new -/
def Bind.name (b : Bind α) (d o : Nat) : Nat := (lookE b.ids o).getD (3000 + 50 * d + o)
def seqL (l : List Nat) : Bool := match l with
 | [] => true
 | x :: xs => !xs.any (Nat.beq x) && seqL xs
def dlSig (s : St α) (d : Nat) (sg : Sig) (args : List (SV α)) (mk : List α → (List α → Dl α) → Cmd α) : Option (Cmd α) := do
  let b ← Bind.svs A' s { ids := [], lv := [] } sg.args args
  let b ← b.obs A' s sg.obs
  let xs ← (List.range b.lv.length).mapM fun i => lookE b.lv i
  let nm := b.name d
  let rk := sg.robs.map (·.1)
  let nw := (rk.filter fun o => !has (b.ids.map (·.1)) o).map nm
  if (seqL (b.ids.map (·.1)) && seqL (b.ids.map (·.2))) && (seqL (sg.obs.map (·.1)) && seqL rk && seqL (rk.map nm)) &&
     b.ids.all (fun p => has (sg.obs.map (·.1)) p.1) && ((svRefs sg.res).all (has rk) && sg.robs.all (fun p => (obRefsA p.2).all (has rk))) && nw.all (fun u => !has s.al u) then
    some (mk xs fun ys => { dst := some (sg.res.map (A'.nth ys) nm), obs := (sg.robs.map fun p => (nm p.1, some (p.2.map' (A'.nth ys) nm))) ++ b.ids.map (fun p => (p.2, none)), born := nw })
  else none
def tmap (t : Nat) : Option (Nat × Nat) := match P.underlying t with
 | some (.map k e) => some (k, e)
 | _ => none
def dlDelete (s : St α) (t : Nat) (x y : Operand) : Option (Cmd α) := do
 let e ← tmap P t
 let kk ← flatK P 8 e.1
 let m ← opv A' s x
 let k ← (opv A' s y).bind (asE A' s)
 match m with
 | .at (.mref o) => match s.go o with
  | some (.map false u) => some (.prim (.mdel (tag P e.1) kk) [u, k] fun z => { dst := none, obs := [(o, some (.map false z))] })
  | _ => none
 | _ => none
/-- what will not be written again -/
def St.fr (s : St α) (o : Nat) : St α := match s.go o with
 | some (.arr false ty sz ag x) => { s with ob := (o, some (.arr true ty sz ag x)) :: s.ob }
 | some (.map false x) => { s with ob := (o, some (.map true x)) :: s.ob }
 | some (.cells false n ag (.wh x)) => { s with ob := (o, some (.cells true n ag (.wh x))) :: s.ob }
 | some (.cells false n ag (.pts l)) => match l.mapM (asA A' s) with
  | some xs => if ag then { s with ob := (o, some (.cells true n ag (.wh (A'.ag xs)))) :: s.ob } else (match xs with
   | [x] => { s with ob := (o, some (.cells true n ag (.wh x))) :: s.ob }
   | _ => s)
  | none => s
 | _ => s
/-- what stands behind the arguments, told as if it was not written again: the inner first -/
def roRefs (s : St α) (args : List Operand) : List Nat :=
 let l := args.flatMap fun o => match opv A' s o with
  | some v => svRefs v
  | none => []
 (l ++ l.flatMap fun o => match s.go o with
  | some b => obRefsA b
  | none => []).reverse
def frAll (s : St α) (args : List Operand) : St α := (roRefs A' s args).foldl (St.fr A') s
/-- an argument of a call that is handed the party's function -/
def argX (s : St α) (o : Operand) : Option (Option α) := match opv A' s o with
 | some (.at .yld) => some none
 | some v => (asE A' s v).map some
 | none => none
def isYld (s : St α) (o : Operand) : Bool := match opv A' s o with
 | some (.at .yld) => true
 | _ => false
def putX (r x : α) : Dl α := { dst := some (.at (.dat r)), obs := [(9999, some (.ext x))] }
def dlCall (s : St α) (d : Nat) (c : Call) : Option (Cmd α) :=
 match c.callee, c.args.toList, c.argTypes.toList with
 | .value (.func f), args, _ => match H.sigAt d f with
  | some sg => (args.mapM (opv A' s)).bind fun l => dlSig A' s d sg l fun xs k => .calls f sg xs k
  | none => if has H.ro f then (args.mapM fun o => (opv A' (frAll A' s args) o).bind (asE A' (frAll A' s args))).map fun xs => .callg f xs putE
   else if args.any (isYld A' s) then (if has s.al 9999 then none else match s.go 9999 with
    | some (.ext x) => (args.mapM (argX A' s)).map fun xs => .callx f xs x putX
    | _ => none)
   else (args.mapM fun o => (opv A' s o).bind (asE A' s)).map fun xs => .call f xs putE
 | .value f, args, _ => (opv A' s f).bind fun v => match v with
  | .at (.clo g a c) => match H.sigAt d g with
   | some sg => (args.mapM (opv A' s)).bind fun l => dlSig A' s d sg ((a.map fun p => .at (.ptr p.1 p.2)) ++ l ++ c.map fun p => .at (.ptr p.1 p.2)) fun xs k => .calls g sg xs k
   | none => none
  | .at .yld => (if has s.al 9999 then none else match s.go 9999 with
   | some (.ext x) => (args.mapM fun o => (opv A' s o).bind (asE A' s)).map fun xs => .yld xs x putX
   | _ => none)
  | v => (asE A' s v).bind fun x => match lookE H.sigs (1000000 + d) with
   | some sg => (args.mapM (opv A' s)).bind fun l => dlSig A' s d sg l fun xs k => .callvs x sg xs k
   | none => (args.mapM fun o => (opv A' s o).bind (asE A' s)).map fun xs => .callv x xs putE
 | .builtin .len, [x], [t] => dlLen A' P s t x
 | .builtin .append, [x, y], [t, t'] => if t == t' then dlApp A' P H s d t x y else none
 | .builtin .min, [x, y], t :: _ => dlMm A' P s t .mn x y
 | .builtin .max, [x, y], t :: _ => dlMm A' P s t .mx x y
 | .builtin .delete, [x, y], t :: _ => dlDelete A' P s t x y
 | _, _, _ => none
def asM (s : St α) : SV α → Option α
 | .at (.mref o) => match s.go o with
  | some (.map _ x) => some x
  | _ => none
 | x => asE A' s x
def zeroP (t : Nat) : Option PV := (P.info? t).bind fun i => i.zero.bind fun z => match z with
 | .agg cs => (cs.toList.mapM cstV).map .agg
 | v => cstV v
def dlLookup (s : St α) (t : Nat) (x k : SV α) (two : Bool) : Option (Cmd α) := do
 let e ← tmap P t
 let z ← zeroP P e.2
 let kk ← flatK P 8 e.1
 let u ← asM A' s x
 let v ← asE A' s k
 some (.prim (if two then .mget2 (tag P e.1) kk z else .mget (tag P e.1) kk z) [u, v] putE)
def dlMapUpdate (s : St α) (t : Nat) (x k v : SV α) : Option (Cmd α) := do
 let e ← tmap P t
 let kk ← flatK P 8 e.1
 let k ← asE A' s k
 let v ← asE A' s v
 match x with
 | .at (.mref o) => match s.go o with
  | some (.map false u) => some (.prim (.mset (tag P e.1) kk) [u, k, v] fun z => { dst := none, obs := [(o, some (.map false z))] })
  | _ => none
 | _ => none
def dlFieldAddr (s : St α) (t : Nat) (x : A α) (f : Nat) : Option (Cmd α) :=
 match P.underlying t with
 | some (.struct fs) => do
  let f ← fs[f]?
  let n ← tsz P f.type
  if n == 0 then none else
  match x with
  | .ptr o off => some (.pure (put (.at (.ptr o (off + f.offset)))))
  | .bptr x n ag off => some (.pure (put (.at (.bptr x n ag (off + f.offset)))))
  | .eptr o i sz off => some (.pure (put (.at (.eptr o i sz (off + f.offset)))))
  | .dat x => do let m ← tsz P t; some (.prim (.unbox m true) [x] fun y => put (.at (.bptr y m true f.offset)))
  | _ => none
 | _ => none
def dlField (s : St α) (t : Nat) (x : SV α) (f : Nat) : Option (Cmd α) :=
 match P.underlying t with
 | some (.struct fs) => do
  let f ← fs[f]?
  let m ← tsz P f.type
  let n ← tsz P t
  let g ← tagS P f.type
  match x with
  | .agg l => if l.length == n then (loadCs A' n true (.pts l) m g f.offset).map fun v => .pure (put v) else none
  | .at (.dat x) => (loadCs A' n true (.wh x) m g f.offset).bind fun _ => some (.prim (.okc n true) [x] fun y => { dst := loadCs A' n true (.wh y) m g f.offset })
  | _ => none
 | _ => none
def tarr (t : Nat) : Option (Nat × Nat) := match P.underlying t with
 | some (.array n e) => some (n, e)
 | _ => none
/-- an element of an array that reads as data -/
def dlIndexArr (s : St α) (k e : Nat) (x i : SV α) : Option (Cmd α) := do
 let sz ← tsz P e
 let ag := tag P e
 let j ← asE A' s i
 match x with
 | .at (.bptr x n true off) => if off == 0 && n == k * sz then some (.prim (.aidx k sz ag) [x, j] fun y => put (.at (.bptr y sz ag 0))) else none
 | _ => none
/-- a place in an array: a constant -/
def cixOf : Operand → Option Nat
 | .const (.int _ n) => if 0 ≤ n then some n.toNat else none
 | _ => none
/-- an element of a variable that is an array -/
def dlIndexOwn (s : St α) (k e : Nat) (ci : Option Nat) (o off : Nat) (i : SV α) : Option (Cmd α) := match s.go o with
 | some (.cells _ n true cs) => if (off == 0 && n == k) && (tsz P e == some 1 && tag P e == false) then (match ci with
   | some c => if Nat.blt c k then some (.pure (put (.at (.ptr o c)))) else none
   | none => (asE A' s i).bind fun j => (wholeCs A' s n cs).map fun x => .prim (.aidx k 1 false) [x, j] fun _ => put (.at (.aptr o j))) else none
 | _ => none
def dlIndexAddr (s : St α) (t : Nat) (ci : Option Nat) (x i : SV α) : Option (Cmd α) := match tarr P t, x with
 | some p, .at (.ptr o off) => dlIndexOwn A' P s p.1 p.2 ci o off i
 | some p, x => dlIndexArr A' P s p.1 p.2 x i
 | none, x => dlIndexSl s t x i
where dlIndexSl (s : St α) (t : Nat) (x i : SV α) : Option (Cmd α) := do
 let e ← tel P t
 let sz ← tsz P e
 let ag := tag P e
 let j ← asE A' s i
 match x with
 | .at (.own o) => match s.go o with
  | some (.arr true _ sz' ag' u) => if sz' == sz && ag' == ag then some (.prim (.idx sz ag) [u, j] fun y => put (.at (.bptr y sz ag 0))) else none
  | some (.arr false _ sz' ag' u) => if sz' == sz && ag' == ag then some (.prim (.idx sz ag) [u, j] fun _ => put (.at (.eptr o j sz 0))) else none
  | _ => none
 | x => do
  let u ← asE A' s x
  some (.prim (.idx sz ag) [u, j] fun y => put (.at (.bptr y sz ag 0)))
/-- a slice's element: cells, aggregate; none of a string -/
def slcTy (t : Nat) : Option (Option (Nat × Bool)) := match P.underlying t with
 | some .string => some none
 | some (.slice e) => (tsz P e).map fun n => some (n, tag P e)
 | _ => none
def dlSlice (s : St α) (t : Nat) (x : SV α) (lo hi mx : Option Operand) : Option (Cmd α) := do
 let u ← asE A' s x
 let str ← slcTy P t
 match lo, hi, mx with
 | some l, some h, none => do
  let l ← (opv A' s l).bind (asE A' s)
  let h ← (opv A' s h).bind (asE A' s)
  some (.prim (match str with
   | none => .ssl
   | some p => .slc p.1 p.2) [u, l, h] putE)
 | some l, none, none => do
  let l ← (opv A' s l).bind (asE A' s)
  some (.prim (match str with
   | none => .sslF
   | some p => .slcF p.1 p.2) [u, l] putE)
 | none, some h, none => do
  let h ← (opv A' s h).bind (asE A' s)
  some (.prim (match str with
   | none => .sslT
   | some p => .slcT p.1 p.2) [u, h] putE)
 | _, _, _ => none
/-- a whole array as a slice -/
def dlArrSl (k e : Nat) (x : SV α) : Option (Cmd α) := do
 let sz ← tsz P e
 match x with
 | .at (.bptr x n true off) => if off == 0 && sz == 1 && n == k && Nat.blt 0 k && decide (k ≤ 1000000) then some (.prim (.asl k) [x] putE) else none
 | _ => none
def dlSlice' (s : St α) (t : Nat) (x : SV α) (lo hi mx : Option Operand) : Option (Cmd α) := match tarr P t, lo, hi, mx with
 | some p, none, none, none => dlArrSl P p.1 p.2 x
 | _, lo, hi, mx => dlSlice A' P s t x lo hi mx
/-- an array of the call's own, cut short -/
def dlSliceO (s : St α) (d t o : Nat) (hi : Operand) : Option (Cmd α) := match s.go o with
 | some (.arr false ty sz ag u) => (tel P t).bind fun e => ((opv A' s hi).bind (asE A' s)).bind fun h => if (e == ty && tsz P e == some sz) && tag P e == ag then
   some (.prim (.slcT sz ag) [u, h] fun z => { dst := some (.at (.own d)), obs := [(o, none), (d, some (.arr false ty sz ag z))], born := [d] }) else none
 | _ => none
def dlSl (s : St α) (d t : Nat) (v : SV α) (lo hi mx : Option Operand) : Option (Cmd α) := match v, lo, hi, mx with
 | .at (.own o), none, some h, none => match s.go o with
  | some (.arr false _ _ _ _) => dlSliceO A' P s d t o h
  | _ => dlSlice' A' P s t v lo hi mx
 | v, lo, hi, mx => dlSlice' A' P s t v lo hi mx
/-- a store through a pointer into an array of the call's own -/
def dlStoreE (s : St α) (o : Nat) (i : α) (sz off m : Nat) (mag : Bool) (v : SV α) : Option (Cmd α) :=
 match s.go o with
 | some (.arr false ty sz' ag x) => do
  let y ← asE A' s v
  if sz' == sz && off == 0 && m == sz && ag == mag then some (.prim (.upd sz ag) [x, i, y] fun z => { dst := none, obs := [(o, some (.arr false ty sz ag z))] })
  else if sz' == sz && ag then some (.prim (.updF sz off m mag) [x, i, y] fun z => { dst := none, obs := [(o, some (.arr false ty sz ag z))] }) else none
 | _ => none
/-- a part's place in a struct or an array: its first cell, its cells, whether it is an aggregate -/
def partAt' (t : Nat) (i : Nat) : Option (Nat × Nat × Bool) := match P.underlying t with
 | some (.struct fs) => (fs[i]?).bind fun f => (tsz P f.type).map fun m => (f.offset, m, tag P f.type)
 | some (.array n e) => if Nat.blt i n then (tsz P e).map fun m => (i * m, m, tag P e) else none
 | _ => none
def buildGo (s : St α) (t : Nat) : List (Nat × Operand) → List (A α) → Option (List (A α))
 | [], acc => some acc
 | p :: ps, acc => match partAt' P t p.1, opv A' s p.2 with
  | some (off, m, g), some v => match svCells A' m g v with
   | some c => if decide (off + m ≤ acc.length) && c.length == m then buildGo s t ps (acc.take off ++ c ++ acc.drop (off + m)) else none
   | none => none
  | _, _ => none
/-- the data among the parts whose form is to be asked -/
def buildAsk (s : St α) (t : Nat) : List (Nat × Operand) → List ((Nat × Bool) × α)
 | [] => []
 | p :: ps => match partAt' P t p.1, opv A' s p.2, p.2 with
  | some (_, _, false), some (.at (.dat _)), .const _ => buildAsk s t ps
  | some (_, m, g), some (.at (.dat x)), _ => ((m, g), x) :: buildAsk s t ps
  | _, _, _ => buildAsk s t ps
def sized (t : Nat) : Bool := match P.underlying t with
 | some (.struct fs) => (fs.toList.mapM (fun f => (P.info? f.type).map fun i => (f.offset, i.size))).isSome
 | some (.array _ e) => (P.info? e).isSome
 | _ => false
def dlBuild (s : St α) (t : Nat) (parts : List (Nat × Operand)) : Option (Cmd α) :=
 if tag P t && sized P t then (zeroCells P t).bind fun z => (buildGo A' P s t parts (z.map (zA A'))).map fun l => match buildAsk A' P s t parts with
  | [] => .pure { dst := some (.agg l) }
  | qs => .prim (.okcs (qs.map (·.1))) (qs.map (·.2)) fun _ => { dst := some (.agg l) }
 else none
def ptrOf : SV α → Option (Nat × Nat)
 | .at (.ptr o off) => some (o, off)
 | _ => none
def dlUn (op : UnOp) (t : Nat) (u : α) : Option (Cmd α) :=
 match op with
 | .not => some (.prim .bnot [u] putE)
 | .neg => do let k ← tkind P t; some (.prim (.neg k) [u] putE)
 | _ => none
def dlConv (s : St α) (src dst : Nat) (u : SV α) : Option (Cmd α) :=
 match P.underlying src, P.underlying dst with
 | some (.int _), some (.int k) => do let u ← asE A' s u; some (.prim (.conv k) [u] putE)
 | some .string, some .string => (asE A' s u).map fun u => .prim .sid [u] putE
 | _, _ => none
def dlNil (v : SV α) : Option (Cmd α) :=
 match v with
 | .at (.ptr o off) => some (.pure (put (.at (.ptr o off))))
 | .at (.bptr x n ag off) => some (.pure (put (.at (.bptr x n ag off))))
 | .at (.dat x) => some (.prim .notnil [x] putE)
 | .at (.clo f a c) => some (.pure (put (.at (.clo f a c))))
 | _ => none
/-- a pointer held against nil -/
def isNilP : Operand → Bool
 | .const (.pointer none) => true
 | _ => false
def tpt (t : Nat) : Bool := match P.underlying t with
 | some (.pointer _) => true
 | _ => false
def dlPn (op : BinOp) (t : Nat) (u : SV α) : Option (Cmd α) :=
 if tpt P t then (match op, u with
  | .eql, .at (.ptr _ _) => some (.pure { dst := some (.at (.kb false)) })
  | .neq, .at (.ptr _ _) => some (.pure { dst := some (.at (.kb true)) })
  | .eql, .at (.dat x) => some (.prim (.pnil true) [x] putE)
  | .neq, .at (.dat x) => some (.prim (.pnil false) [x] putE)
  | _, _ => none) else none
def boxOf (d n t : Nat) (v : SV α) : Option (Dl α) := match v with
 | .at (.dat x) => some { dst := some (.at (.ptr d 0)), obs := [(d, some (.cells (!H.wr.contains d) n (tag P t) (.wh x)))], born := [d] }
 | v => (svCells A' n (tag P t) v).bind fun l => if l.any (aRef d) then none else some { dst := some (.at (.ptr d 0)), obs := [(d, some (.cells false n (tag P t) (.pts l)))], born := [d] }
def dlPick (s : St α) (c : SV α) (a b : Operand) : Option (Cmd α) :=
 match c with
 | .at (.kb true) => (opv A' s a).map fun v => .pure (put v)
 | .at (.kb false) => (opv A' s b).map fun v => .pure (put v)
 | _ => none
def dlBs (s : St α) (d t n : Nat) (parts : Array (Nat × Operand)) : Option (Cmd α) := do
 let e ← tel P t
 let sz ← tsz P e
 let vs ← parts.toList.mapM fun p => (opv A' s p.2).bind (asE A' s)
 let z ← zeroCells P e
 if z.length == sz && (parts.toList.map (·.1) == List.range n && (decide (n * sz ≤ 16777216) && decide (0 < sz))) then
  some (.prim (.lst sz (tag P e)) vs fun z => { dst := some (.at (.own d)), obs := [(d, some (.arr (!H.wr.contains d) e sz (tag P e) z))], born := [d] })
 else none
def dlMs (s : St α) (d t : Nat) (n c : Operand) : Option (Cmd α) := do
 let e ← tel P t
 let sz ← tsz P e
 let by' ← tby P e
 let u ← (opv A' s n).bind (asE A' s)
 let z ← zeroCells P e
 match n, c, z with
 | .tmp i, .tmp j, [z] => if i == j && (sz == 1 && tag P e == false) then
   some (.prim (.rep 1 false by' z) [u] fun y => { dst := some (.at (.own d)), obs := [(d, some (.arr (!H.wr.contains d) e 1 false y))], born := [d] }) else none
 | _, _, _ => none
def dlIx (t : Nat) (u j : α) : Option (Cmd α) := match P.underlying t with
 | some .string => some (.prim .sidx [u, j] putE)
 | _ => none
def dlEx (i : Nat) (v : SV α) : Option (Cmd α) := match v with
 | .at (.dat x) => some (.prim (.tc i) [x] putE)
 | _ => none
def dlLd (s : St α) (t : Nat) (v : SV α) : Option (Cmd α) := match v with
 | .at a => dlLoad A' P s t a
 | _ => none
def dlFa (s : St α) (t : Nat) (v : SV α) (f : Nat) : Option (Cmd α) := match v with
 | .at a => dlFieldAddr P s t a f
 | _ => none
/-- a store into an element of a variable that is an array -/
def dlStoreA (s : St α) (o : Nat) (i : α) (m : Nat) (mag : Bool) (v : SV α) : Option (Cmd α) := match s.go o with
 | some (.cells false n true cs) => if m == 1 && mag == false then (asE A' s v).bind fun y => (wholeCs A' s n cs).map fun x => .prim (.aupd n) [x, i, y] fun z => { dst := none, obs := [(o, some (.cells false n true (.wh z)))] } else none
 | _ => none
def dlSt (s : St α) (t m : Nat) (p v : SV α) : Option (Cmd α) := match p with
 | .at (.aptr o i) => dlStoreA A' s o i m (tag P t) v
 | .at (.eptr o i sz off) => dlStoreE A' s o i sz off m (tag P t) v
 | .at a => guardPut m (tag P t) v fun v => storeAtP A' s a m (tag P t) v
 | _ => none
def dlFn (s : St α) (f : Nat) (first captured : Array Operand) : Option (Cmd α) :=
 if (lookE H.sigs f).isSome then (do
  let a ← first.toList.mapM fun o => (opv A' s o).bind ptrOf
  let c ← captured.toList.mapM fun o => (opv A' s o).bind ptrOf
  some (.pure (put (.at (.clo f a c))))) else do
  let a ← first.toList.mapM fun o => (opv A' s o).bind (asE A' s)
  let c ← captured.toList.mapM fun o => (opv A' s o).bind (asE A' s)
  some (.pure (putE (A'.fn f a c)))
def dl0 (s : St α) (o : Oper) : Option (Cmd α) :=
 let d := o.dst.getD 0
 match o.op with
 | .move x | .assign x => (opv A' s x).map fun v => .pure (put v)
 | .pick c a b => (opv A' s c).bind fun c => dlPick A' s c a b
 | .alloc t => do
  let n ← tsz P t
  let z ← zeroCells P t
  if z.length == n then some (.pure { dst := some (.at (.ptr d 0)), obs := [(d, some (.cells false n (tag P t) (.pts (z.map (zA A')))))], born := [d] }) else none
 | .box t x => do
  let n ← tsz P t
  let v ← opv A' s x
  guardPut n (tag P t) v (boxOf A' P H d n t)
 | .build t parts => dlBuild A' P s t parts.toList
 | .buildSlice t n parts => dlBs A' P H s d t n parts
 | .load t a => (opv A' s a).bind (dlLd A' P s t)
 | .store t a x => do
  let m ← tsz P t
  let p ← opv A' s a
  let v ← opv A' s x
  dlSt A' P s t m p v
 | .nilCheck x => (opv A' s x).bind dlNil
 | .binOp op t x y _ => if isNilP y then (opv A' s x).bind (dlPn P op t) else do
  let u ← opv A' s x
  let v ← opv A' s y
  dlBin A' P s op t u v
 | .unOp op t x => ((opv A' s x).bind (asE A' s)).bind (dlUn P op t)
 | .convert src dst x => (opv A' s x).bind (dlConv A' P s src dst)
 | .makeFunc (.func f) first captured => dlFn A' H s f first captured
 | .makeMap _ none => some (.pure { dst := some (.at (.mref d)), obs := [(d, some (.map false (A'.cst (.mp [] []))))], born := [d] })
 | .lookup t x k two => do
  let u ← opv A' s x
  let v ← opv A' s k
  dlLookup A' P s t u v two
 | .mapUpdate t m k x | .insert t m k x => do
  let m ← opv A' s m
  let k ← opv A' s k
  let x ← opv A' s x
  dlMapUpdate A' P s t m k x
 | .makeSlice t n c => dlMs A' P H s d t n c
 | .slice t x lo hi mx => (opv A' s x).bind fun v => dlSl A' P s d t v lo hi mx
 | .fieldAddr t x f => (opv A' s x).bind fun v => dlFa P s t v f
 | .field t x f => (opv A' s x).bind fun v => dlField A' P s t v f
 | .indexAddr t x i => do
  let v ← opv A' s x
  let j ← opv A' s i
  dlIndexAddr A' P s t (cixOf i) v j
 | .index t x i => do
  let u ← (opv A' s x).bind (asE A' s)
  let j ← (opv A' s i).bind (asE A' s)
  dlIx P t u j
 | .extract t i => (opv A' s t).bind (dlEx i)
 | .call c => dlCall A' P H s d c
 | .panic _ => some .fail
 | _ => none
end
end Go.Lf
/- Code read into the language. -/
namespace Go.Lf
variable [Mk] [Gl]
section
variable {α : Type} (A' : Alg α) (P : Program) (H : Hint)
def svRef (d : Nat) : SV α → Bool
 | .at x => aRef d x
 | .agg l => l.any (aRef d)
def obRef (d : Nat) : Ob α → Bool
 | .cells _ _ _ (.pts l) => l.any (aRef d)
 | _ => false
/-- what is of this kind is struck -/
def strike {β : Type} (p : β → Bool) (l : List (Nat × Option β)) : List (Nat × Option β) :=
 if l.any (fun q => match q.2 with
  | some u => p u
  | none => false) then (l.filterMap fun q => match look l q.1 with
  | some u => if p u then some (q.1, none) else none
  | none => none) ++ l else l
def St.kill (s : St α) (d : Nat) : St α := { s with tm := strike (svRef d) s.tm, ob := strike (obRef d) s.ob }
def keepT (s : St α) (dst : Option Nat) (born : List Nat) (t : Nat) : Bool := (match dst with
  | some u => !Nat.beq u t
  | none => true) && (match born, s.gt t with
  | [], _ => true
  | _, some v => !born.any fun d => svRef d v
  | _, none => true)
/-- the same, and no datum in it -/
def aFree : A α → A α → Bool
 | .clo f a c, .clo f' a' c' => Nat.beq f f' && decide (a = a') && decide (c = c')
 | .ptr o k, .ptr o' k' => Nat.beq o o' && Nat.beq k k'
 | .mref o, .mref o' => Nat.beq o o'
 | .own o, .own o' => Nat.beq o o'
 | _, _ => false
def asFree : List (A α) → List (A α) → Bool
 | [], [] => true
 | x :: l, y :: r => aFree x y && asFree l r
 | _, _ => false
def obFree : Ob α → Ob α → Bool
 | .cells fz n ag (.pts l), .cells fz' n' ag' (.pts l') => (fz == fz' && Nat.beq n n') && (ag == ag' && asFree l l')
 | _, _ => false
def keepO (s : St α) (obs : List (Nat × Option (Ob α))) (born : List Nat) (o : Nat) : Bool := (if obs.any (fun p => Nat.beq p.1 o) then (match look obs o, s.go o with
  | some b', some b => obFree b b'
  | _, _ => false) else true) && (match born, s.go o with
  | [], _ => true
  | _, some b => !born.any fun d => obRef d b
  | _, none => true)
def St.ap (s : St α) (dst : Option Nat) (d : Dl α) : St α :=
  { d.born.foldl St.kill s with
    tm := match dst with
      | some t => (t, d.dst) :: (d.born.foldl St.kill s).tm
      | none => (d.born.foldl St.kill s).tm
    ob := d.obs ++ (d.born.foldl St.kill s).ob
    kt := s.kt.filter (keepT s dst d.born)
    ko := s.ko.filter (keepO s d.obs d.born) }
def St.set (s : St α) (t : Nat) (v : SV α) : St α := { s with tm := (t, some v) :: s.tm }
/-- an operation that is not wanted -/
def St.skip (s : St α) (dst : Option Nat) : St α := match dst with
 | some t => { s with tm := (t, some (.at .und)) :: s.tm }
 | none => s
/-- what an operation looks at: temporaries -/
def looks (ops : List Oper) (o : Oper) : List Nat :=
  (o.op.operands.toList.filterMap fun | .tmp t => some t | _ => none) ++
  (match o.guard with
   | some (g, _) => ((ops[g]?).bind (·.dst)).toList
   | none => [])
def refsOf (s : St α) (ts : List Nat) : List Nat := ts.flatMap fun t => match s.gt t with
 | some (.at .yld) => [9999]
 | some v => svRefs v
 | none => []
/-- one step deeper -/
def grow (s : St α) (l : List Nat) : List Nat := l ++ l.flatMap fun o => match s.go o with
 | some b => obRefsA b
 | none => []
/-- what stands behind the looks, two steps deep, and three -/
def refs2 (s : St α) (ts : List Nat) : List Nat := grow s (grow s (refsOf s ts))
def refs3 (s : St α) (ts : List Nat) : List Nat := grow s (refs2 s ts)
/-- behind which of these it looks -/
def eyes (ops : List Oper) (s : St α) (o : Oper) : List Nat := match o.op with
 | .move _ => []
 | .assign _ => []
 | .store _ (.tmp a) (.tmp x) => match s.gt a, s.gt x with
  | some (.at (.ptr _ _)), some (.at (.own _)) => [a]
  | _, _ => looks ops o
 | _ => looks ops o
def St.cut (s : St α) (ts es : List Nat) : St α :=
  { tm := ts.map fun t => (t, s.gt t)
    ob := (refs2 s es).map fun o => (o, s.go o)
    al := s.al }
/-- the operands that are asked for as plain data -/
def asks (o : Oper) : List Operand := match o.op with
 | .call { callee := .value (.func f), args, .. } => match H.sigAt (o.dst.getD 0) f with
  | some sg => (sg.args.zip args.toList).filterMap fun p => match p.1 with
   | .at (.dat _) => some p.2
   | _ => none
  | none => if has H.ro f then [] else args.toList
 | .call { callee := .value _, args, .. } => args.toList
 | .makeFunc (.func f) a c => if (lookE H.sigs f).isSome then [] else a.toList ++ c.toList
 | .buildSlice _ _ ps => ps.toList.map (·.2)
 | .mapUpdate _ _ k v => [k, v]
 | .insert _ _ k v => [k, v]
 | _ => []
def pre (s : St α) (o : Oper) : List Nat := (asks H o).flatMap fun x => match x with
 | .tmp t => match s.gt t with
  | some v => svRefs v
  | none => []
 | _ => []
/-- is it yet to be frozen? -/
def toFr (c : St α) (o : Nat) : Bool := match c.go o with
 | some (.arr false _ _ _ _) => true
 | some (.map false _) => true
 | some (.cells false _ _ _) => true
 | _ => false
def frl (s : St α) (o : Oper) : List Nat := (pre H s o).filter (toFr s)
/-- what is frozen, the frozen cut, and the operation on it -/
def dl (ops : List Oper) (s : St α) (o : Oper) : List Nat × St α × Option (Cmd α) :=
 let c := s.cut (looks ops o) (eyes ops s o)
 let p := frl H c o
 let cf := p.foldl (St.fr A') c
 (p, cf, dl0 A' P H cf o)
def frzOb (born : List Nat) (cf : St α) (o : Nat) : Option (Ob α) := match cf.go o with
 | some b => if born.any fun d => obRef d b then none else some b
 | none => none
/-- the frozen objects are a part of what the operation does -/
def Dl.frz (δ : Dl α) (p : List Nat) (cf : St α) : Dl α := { δ with obs := δ.obs ++ p.map fun o => (o, frzOb δ.born cf o) }
/-- what was done on this way through a region: the operation's number, what it looked at and wrote -/
structure Done where
 i : Nat
 dst : Option Nat
 lk : List Nat
 rd : List Nat
 wr : List Nat
 born : List Nat
 refs : List Nat
 /-- what its temporaries name -/
 rn : List Nat
def meets (xs ys : List Nat) : Bool := xs.any fun x => ys.any fun y => Nat.beq x y
def apartD (x y : Done) : Bool :=
 !meets x.dst.toList (y.lk ++ y.dst.toList) && !meets y.dst.toList x.lk &&
 !meets x.wr (y.rd ++ y.wr) && !meets y.wr x.rd &&
 !meets x.born y.refs && !meets y.born x.refs && !meets x.born y.born && !meets x.born y.rn && !meets y.born x.rn
/-- each operation's forerunners, by edges that always bind: a mask -/
def fore : List Oper → List Nat → List Nat
 | [], acc => acc
 | o :: r, acc => fore r (acc ++ [o.after.toList.foldl (fun m e => if Region.binds .any e then m ||| 2 ^ e.on ||| acc.getD e.on 0 else m) 0])
/-- edges that always bind lead back -/
def edgesOk (ops : List Oper) : Bool := ops.zipIdx.all fun p => p.1.after.toList.all fun e => !Region.binds .any e || Nat.blt e.on p.2
def drawOk (ops : List Oper) (l : List Done) : Bool :=
 let fr := fore ops []
 edgesOk ops && l.all fun y => l.all fun x => if Nat.blt x.i y.i then (fr.getD y.i 0).testBit x.i || apartD x y else true
def dlRefs (d : Dl α) : List Nat := (match d.dst with
  | some v => svRefs v
  | none => []) ++ d.obs.flatMap fun p => match p.2 with
  | some (.cells _ _ _ (.pts l)) => svRefs (.agg l)
  | _ => []
def doneOf (ops : List Oper) (s : St α) (i : Nat) (o : Oper) (d : Dl α) : Done :=
 { i, dst := o.dst, lk := looks ops o, rd := refs3 s (eyes ops s o), wr := d.obs.map (·.1) ++ d.born, born := d.born, refs := dlRefs d, rn := refsOf s (looks ops o) }
def skipDl : Dl α := { dst := some (.at .und) }
def doneSkip (ops : List Oper) (s : St α) (i : Nat) (o : Oper) : Done := { i, dst := o.dst, lk := looks ops o, rd := refs3 s (eyes ops s o), wr := [], born := [], refs := [], rn := refsOf s (looks ops o) }
def runCmd (c : Cmd α) (k : Dl α → T α) : T α :=
 match c with
 | .pure d => k d
 | .prim p xs d => if p.isLen then .fail else .l p xs fun y => k (d y)
 | .call f xs d => .call f xs fun y => k (d y)
 | .callg f xs d => .call f xs fun y => .l .gnd [y] fun z => k (d z)
 | .callv x xs d => .callv x xs fun y => k (d y)
 | .calls f sg xs d => .calls f sg xs fun ys => k (d ys)
 | .callvs x sg xs d => .callvs x sg xs fun ys => k (d ys)
 | .len x => .l .len [x] fun y => k (putE y)
 | .nilq x b => .nilq x (k { dst := some (.at (.kb b)) }) (k { dst := some (.at (.kb !b)) })
 | .yld xs s d => .yld xs s fun y z => k (d y z)
 | .callx f xs s d => .callx f xs s fun y z => k (d y z)
 | .fail => .fail
def Cmd.isNilq : Cmd α → Bool
 | .nilq _ _ => true
 | _ => false
/-- does a guard ask for this operation's result? -/
def isGuard (all : List Oper) (i : Nat) : Bool := all.any fun o => match o.guard with
 | some (g, _) => Nat.beq g i
 | none => false
/-- a result that a guard asks for is split at once -/
def splitB (g : Bool) (δ : Dl α) (k : Dl α → T α) : T α :=
 match g, δ.dst with
 | true, some (.at (.dat c)) => .ite c (k { δ with dst := some (.at (.kb true)) }) (k { δ with dst := some (.at (.kb false)) })
 | _, _ => k δ
/-- is the operation wanted? -/
def want (all : List Oper) (s : St α) (o : Oper) : Option Bool :=
 match o.guard with
 | none => some true
 | some (g, v) => match (all[g]?).bind (·.dst) with
  | none => none
  | some t => match s.gt t with
   | some (.at (.kb b)) => some (b == v)
   | some (.at .und) => some false
   | _ => none
def fits (s : St α) (o : Oper) : Bool := (match o.dst with
 | some d => Nat.blt d s.nt
 | none => true) && !has s.al (o.dst.getD 0)
/-- the operations of a region, in the text's order -/
def comOps (all : List Oper) (draw : Bool) : List Oper → Nat → St α → List Done → (St α → T α) → T α
 | [], _, s, done, k => if draw && !drawOk all done then .fail else k s
 | o :: rest, i, s, done, k => if fits s o then (match want all s o with
  | none => .fail
  | some false => comOps all draw rest (i + 1) (s.ap o.dst skipDl) (doneSkip all s i o :: done) k
  | some true => match dl A' P H all s o with
   | (p, cf, some c) => if draw && c.isNilq then .fail else
     runCmd c fun δ => splitB (isGuard all i) δ fun δ => comOps all draw rest (i + 1) (s.ap o.dst (δ.frz p cf)) (doneOf all s i o (δ.frz p cf) :: done) k
   | _ => .fail) else .fail
/-- is what bears this name (at a loop's head) written no more? -/
def fzOf (c : Nat) : Bool := Nat.blt c 500000
def nmOf (fz : Bool) (c : Nat) : Nat := if fz then c else 500000 + c
/-- what a loop carries from round to round: D a datum; O a slice of the call's own in a temporary; W a variable as one datum; C a variable cell by cell; R an array that is written in place -/
inductive Car where
 | D (t : Nat)
 | O (t c ty sz : Nat) (ag : Bool)
 | W (o n : Nat) (ag : Bool)
 | C (o n : Nat) (ag : Bool) (kinds : List (Option (Nat × Nat × Nat × Bool)))
 | R (o ty sz : Nat) (ag : Bool)
 /-- a map that is written -/
 | M (o : Nat)
 /-- a variable cell by cell, maps that are written among its cells -/
 | H (o n : Nat) (ag : Bool) (ks : List (Option Nat))
 /-- a variable cell by cell, arrays of the call's own and maps that are written among its cells -/
 | G (o n : Nat) (ag : Bool) (ks : List (Option (Sum (Nat × Nat × Nat × Bool) Nat)))
 /-- the party's state -/
 | X
def opsOf : Code → List Oper
 | .region _ ops _ => ops.toList
 | .seq a b => opsOf a ++ opsOf b
 | .cond _ a b => opsOf a ++ opsOf b
 | .block _ b => opsOf b
 | .loop b => opsOf b
 | .scope b => opsOf b
 | .rangeFunc _ _ a b => opsOf a ++ opsOf b
 | _ => []
/-- one thing's leaves as they stand, or none -/
def Car.leaves (s : St α) : Car → Option (List α)
 | .D t => match s.gt t with
  | some v => (asE A' s v).map fun x => [x]
  | none => none
 | .O t c ty sz ag => match s.gt t with
  | some (.at .nils) => if Nat.blt 0 sz then some [A'.cst (.sl [])] else none
  | some (.at (.own o)) => match s.go o with
   | some (.arr fz ty' sz' ag' x) => if ty' == ty && sz' == sz && ag' == ag && fz == fzOf c then some [x] else none
   | _ => none
  | _ => none
 | .W o n ag => match s.go o with
  | some (.cells false n' ag' (.wh x)) => if n' == n && ag' == ag then some [x] else none
  | some (.cells false n' ag' (.pts l)) => if n' == n && ag' == ag then (match l.mapM (asA A' s) with
   | some l => if ag then some [A'.ag l] else (match l with
    | [x] => some [x]
    | _ => none)
   | none => none) else none
  | _ => none
 | .C o n ag ks => match s.go o with
  | some (.cells false n' ag' cs) => if n' == n && ag' == ag && (explode A' n ag cs).length == ks.length then ((explode A' n ag cs).zip ks).mapM fun p => match p.2, p.1 with
   | none, a => asA A' s a
   | some (_, _, sz, _), .nils => if Nat.blt 0 sz then some (A'.cst (.sl [])) else none
   | some (c, ty, sz, ag), .own o' => match s.go o' with
    | some (.arr fz ty' sz' ag' x) => if ty' == ty && sz' == sz && ag' == ag && fz == fzOf c then some x else none
    | _ => none
   | _, _ => none else none
  | _ => none
 | .R o ty sz ag => match s.go o with
  | some (.arr false ty' sz' ag' x) => if ty' == ty && sz' == sz && ag' == ag then some [x] else none
  | _ => none
 | .M o => match s.go o with
  | some (.map false x) => some [x]
  | _ => none
 | .H o n ag ks => match s.go o with
  | some (.cells false n' ag' cs) => if n' == n && ag' == ag && (explode A' n ag cs).length == ks.length then ((explode A' n ag cs).zip ks).mapM fun p => match p.2, p.1 with
   | none, a => asA A' s a
   | some m, .mref m' => if Nat.beq m' m then (match s.go m with
    | some (.map false x) => some x
    | _ => none) else none
   | _, _ => none else none
  | _ => none
 | .G o n ag ks => match s.go o with
  | some (.cells false n' ag' cs) => if n' == n && ag' == ag && (explode A' n ag cs).length == ks.length then ((explode A' n ag cs).zip ks).mapM fun p => match p.2, p.1 with
   | none, a => asA A' s a
   | some (.inl (c, ty, sz, ag)), .own o' => match s.go o' with
    | some (.arr fz ty' sz' ag' x) => if ty' == ty && sz' == sz && ag' == ag && fz == fzOf c then some x else none
    | _ => none
   | some (.inr m), .mref m' => if Nat.beq m' m then (match s.go m with
    | some (.map false x) => some x
    | _ => none) else none
   | _, _ => none else none
  | _ => none
 | .X => match s.go 9999 with
  | some (.ext x) => some [x]
  | _ => none
/-- the own arrays that a thing hands on under another name -/
def Car.owns (s : St α) : Car → List Nat
 | .O t _ _ _ _ => match s.gt t with
  | some (.at (.own o)) => [o]
  | _ => []
 | .C o n ag ks => match s.go o with
  | some (.cells _ _ _ cs) => ((explode A' n ag cs).zip ks).filterMap fun p => match p.2, p.1 with
   | some _, .own o' => some o'
   | _, _ => none
  | _ => []
 | .G o n ag ks => match s.go o with
  | some (.cells _ _ _ cs) => ((explode A' n ag cs).zip ks).filterMap fun p => match p.2, p.1 with
   | some (.inl _), .own o' => some o'
   | _, _ => none
  | _ => []
 | _ => []
/-- what stands at the loop's head; its leaves lie at 'k' -/
def Car.head (c : Car) (xs : List α) (k : Nat) (s : St α) : St α :=
  match c with
  | .D t => { s with tm := (t, some (.at (.dat (A'.nth xs k)))) :: s.tm }
  | .O t c ty sz ag => { s with tm := (t, some (.at (.own c))) :: s.tm, ob := (c, some (.arr (fzOf c) ty sz ag (A'.nth xs k))) :: s.ob }
  | .W o n ag => { s with ob := (o, some (.cells false n ag (.wh (A'.nth xs k)))) :: s.ob }
  | .C o n ag ks =>
      { s with ob := (ks.zipIdx.filterMap fun p => match p.1 with
          | some (c, ty, sz, ag) => some (c, some (.arr (fzOf c) ty sz ag (A'.nth xs (k + p.2))))
          | none => none) ++ (o, some (.cells false n ag (.pts (ks.zipIdx.map fun p => match p.1 with
          | some (c, _) => .own c
          | none => .dat (A'.nth xs (k + p.2)))))) :: s.ob }
  | .R o ty sz ag => { s with ob := (o, some (.arr false ty sz ag (A'.nth xs k))) :: s.ob }
  | .M o => { s with ob := (o, some (.map false (A'.nth xs k))) :: s.ob }
  | .H o n ag ks =>
      { s with ob := (ks.zipIdx.filterMap fun p => match p.1 with
          | some m => some (m, some (.map false (A'.nth xs (k + p.2))))
          | none => none) ++ (o, some (.cells false n ag (.pts (ks.zipIdx.map fun p => match p.1 with
          | some m => .mref m
          | none => .dat (A'.nth xs (k + p.2)))))) :: s.ob }
  | .G o n ag ks =>
      { s with ob := (ks.zipIdx.filterMap fun p => match p.1 with
          | some (.inl (c, ty, sz, ag)) => some (c, some (.arr (fzOf c) ty sz ag (A'.nth xs (k + p.2))))
          | some (.inr m) => some (m, some (.map false (A'.nth xs (k + p.2))))
          | none => none) ++ (o, some (.cells false n ag (.pts (ks.zipIdx.map fun p => match p.1 with
          | some (.inl (c, _)) => .own c
          | some (.inr m) => .mref m
          | none => .dat (A'.nth xs (k + p.2)))))) :: s.ob }
  | .X => { s with ob := (9999, some (.ext (A'.nth xs k))) :: s.ob }
def Car.wide : Car → Nat
 | .C _ _ _ ks => ks.length
 | .H _ _ _ ks => ks.length
 | .G _ _ _ ks => ks.length
 | _ => 1
def Car.tmps : Car → List Nat
 | .D t => [t]
 | .O t _ _ _ _ => [t]
 | _ => []
/-- objects that get a new handle -/
def Car.news : Car → List Nat
 | .O _ c _ _ _ => [c]
 | .C _ _ _ ks => ks.filterMap fun k => k.map (·.1)
 | .G _ _ _ ks => ks.filterMap fun k => match k with
  | some (.inl q) => some q.1
  | _ => none
 | _ => []
/-- objects that keep their handle -/
def Car.stay : Car → List Nat
 | .W o _ _ => [o]
 | .C o _ _ _ => [o]
 | .R o _ _ _ => [o]
 | .M o => [o]
 | .H o _ _ ks => o :: ks.filterMap id
 | .G o _ _ ks => o :: ks.filterMap fun k => match k with
  | some (.inr m) => some m
  | _ => none
 | .X => [9999]
 | _ => []
/-- it stands in memory, not in a temporary -/
def Car.isObj : Car → Bool
 | .D _ => false
 | .O _ _ _ _ _ => false
 | _ => true
def headGo : List Car → List α → Nat → St α → St α
 | [], _, _, s => s
 | c :: cs, xs, k, s => headGo cs xs (k + c.wide) (c.head A' xs k s)
def leavesGo (s : St α) : List Car → Option (List α)
 | [] => some []
 | c :: cs => match c.leaves A' s, leavesGo s cs with
  | some xs, some ys => if xs.length == c.wide then some (xs ++ ys) else none
  | _, _ => none
/-- a loop's plan: what it carries, and the temporaries and objects that stay as they are -/
structure Plan where
 cars : List Car
 ts : List Nat
 os : List Nat
/-- what stays as it is through the loop -/
def kept (p : Plan) (s : St α) : St α :=
 { s with tm := p.ts.filterMap fun t => (s.gt t).map fun v => (t, some v), ob := p.os.filterMap fun o => (s.go o).map fun v => (o, some v) }
/-- the plan is sound at a state: what stays names only what keeps its handle; names are apart -/
def Plan.ok (p : Plan) (s : St α) : Bool :=
 let nw := p.cars.flatMap Car.news
 let st := p.cars.flatMap Car.stay
 let ct := p.cars.flatMap Car.tmps
 let ow := p.cars.flatMap (Car.owns A' s)
 !meets nw s.al && seqL (nw ++ st) && seqL ct && seqL ow && !meets ct p.ts && !meets (nw ++ st) p.os && !meets ow (p.os ++ st) &&
 p.ts.all (fun t => match s.gt t with
  | some v => (svRefs v).all (has (p.os ++ st))
  | none => false) &&
 p.os.all fun o => match s.go o with
  | some (.cells _ _ _ (.pts l)) => (svRefs (.agg l)).all (has (p.os ++ st))
  | some _ => true
  | none => false
/-- at the end of a round: what should stay has stayed -/
def Plan.stayed (p : Plan) (s : St α) : Bool := p.ts.all (has s.kt) && p.os.all (has s.ko)
/-- the state at the loop's head -/
def Plan.head (p : Plan) (s : St α) (ys : List α) : St α :=
 { headGo A' p.cars ys 0 (kept p s) with dep := s.dep + 1, kt := p.ts, ko := p.os }
/-- behind the loop: what was kept around it, and through it -/
def St.back (s : St α) (s0 : St α) : St α := { s with kt := s0.kt.filter (has s.kt), ko := s0.ko.filter (has s.ko) }
/-- a condition's temporary is known -/
def St.know (s : St α) (t : Nat) (b : Bool) : St α := if has s.kt t then s else s.set t (.at (.kb b))
/-! the plan itself is a guess: it needs no proof -/
def nub : List Nat → List Nat → List Nat
 | [], acc => acc.reverse
 | x :: xs, acc => nub xs (if acc.any (Nat.beq x) then acc else x :: acc)
def findOp (ops : List Oper) (t : Nat) : Option Oper := ops.find? fun o => match o.dst with
 | some d => Nat.beq d t
 | none => false
/-- does each way through it leave the loop that it stands in? ('ids': the blocks within) -/
def leaves : List Nat → Code → Bool
 | _, .ret => true
 | ids, .exit id => !has ids id
 | ids, .seq a b => leaves ids a || leaves ids b
 | ids, .cond _ a b => leaves ids a && leaves ids b
 | ids, .block id b => leaves (id :: ids) b
 | _, _ => false
/-- the operations on ways that come back to the head -/
def opsBack : List Nat → Code → List Oper
 | _, .region _ ops _ => ops.toList
 | ids, .seq a b => if leaves ids b then [] else opsBack ids a ++ opsBack ids b
 | ids, .cond _ a b => opsBack ids a ++ opsBack ids b
 | ids, .block id b => opsBack (id :: ids) b
 | ids, .loop b => opsBack ids b
 | ids, .scope b => opsBack ids b
 | _, _ => []
/-- where an address comes from: a temporary, and the cells behind it -/
def rootOf (ops : List Oper) : Nat → Operand → Nat → Option (Nat × Nat)
 | 0, _, _ => none
 | n + 1, .tmp t, off => match findOp ops t with
  | some { op := .fieldAddr ty x f, .. } => match P.underlying ty with
   | some (.struct fs) => match fs[f]? with
    | some fd => rootOf ops n x (off + fd.offset)
    | none => none
   | _ => none
  | some { op := .move x, .. } => rootOf ops n x off
  | some { op := .nilCheck x, .. } => rootOf ops n x off
  | _ => some (t, off)
 | _, _, _ => none
/-- the array that an element's address lies in -/
def arrOf (s : St α) (ops : List Oper) (x : Operand) : Option Nat :=
 match x with
 | .tmp t => match findOp ops t with
  | some { op := .indexAddr _ (.tmp u) _, .. } =>
   let u := match findOp ops u with
    | some { op := .move (.tmp u'), .. } => u'
    | _ => u
   match s.gt u with
   | some (.at (.own o)) => some o
   | _ => match findOp ops u with
    | some { op := .load _ a, .. } => match rootOf P ops 20 a 0 with
     | some (t, off) => match s.gt t with
      | some (.at (.ptr o' off0)) => match s.go o' with
       | some (.cells _ _ _ (.pts l)) => match l[off + off0]? with
        | some (.own o) => some o
        | _ => none
       | _ => none
      | _ => none
     | none => none
    | _ => none
  | _ => none
 | _ => none
/-- the variable that is an array which is written -/
def varOf (s : St α) (ops : List Oper) (x : Operand) : Option Nat :=
 match x with
 | .tmp t => match findOp ops t with
  | some { op := .indexAddr _ u _, .. } => match rootOf P ops 20 u 0 with
   | some (t', _) => match s.gt t' with
    | some (.at (.ptr o _)) => some o
    | _ => none
   | none => none
  | _ => none
 | _ => none
/-- the map that is written -/
def mapOf (s : St α) (ops : List Oper) (m : Operand) : Option Nat := match rootOf P ops 20 m 0 with
 | some (t, _) => match s.gt t with
  | some (.at (.mref o)) => some o
  | _ => match findOp ops t with
   | some { op := .load _ a, .. } => match rootOf P ops 20 a 0 with
    | some (t, off) => match s.gt t with
     | some (.at (.ptr o' off0)) => match s.go o' with
      | some (.cells _ _ _ (.pts l)) => match l[off + off0]? with
       | some (.mref o) => some o
       | _ => none
      | _ => none
     | _ => none
    | none => none
   | _ => none
 | none => none
def appTy (ops : List Oper) : Operand → Option Nat
 | .tmp t => match findOp ops t with
  | some { op := .call { callee := .builtin .append, argTypes, .. }, .. } => argTypes[0]?
  | some { op := .move (.tmp u), .. } => match findOp ops u with
   | some { op := .call { callee := .builtin .append, argTypes, .. }, .. } => argTypes[0]?
   | _ => none
  | _ => none
 | _ => none
/-- the temporary that an append's result stands in -/
def appD (ops : List Oper) : Operand → Nat
 | .tmp t => match findOp ops t with
  | some { op := .move (.tmp u), .. } => u
  | _ => t
 | _ => 0
def guessO (t c : Nat) (ops : List Oper) (x : Operand) : Option Car := do
 let ty ← appTy ops x
 let e ← tel P ty
 let sz ← tsz P e
 some (.O t (nmOf (!H.wr.contains (appD ops x)) c) e sz (tag P e))
def carOfT (s : St α) (ops : List Oper) (t : Nat) : List Car :=
 if has H.da t then [.D t] else match s.gt t with
 | some (.at (.own o)) => match s.go o with
  | some (.arr fz ty sz ag _) => [.O t (nmOf fz (1000 + t)) ty sz ag]
  | _ => []
 | some (.at .nils) => ((ops.findSome? fun o => match o.dst, o.op with
   | some d, .assign x => if Nat.beq d t then guessO P H t (1000 + t) ops x else none
   | _, _ => none).map fun c => [c]).getD [.D t]
 | some (.at (.dat _)) => [.D t]
 | some (.at (.kb _)) => [.D t]
 | _ => []
def carOfO (s : St α) (ops : List Oper) (o : Nat) : List Car :=
 match s.go o with
 | some (.cells false n ag (.wh _)) => [.W o n ag]
 | some (.map false _) => [.M o]
 | some (.cells false n ag (.pts l)) => if l.any (fun a => match a with
   | .clo _ _ _ => true
   | .ptr _ _ => true
   | _ => false) then [] else if l.any (fun a => match a with
   | .mref _ => true
   | _ => false) && l.any (fun a => match a with
   | .own _ => true
   | _ => false) then [.G o n ag (l.zipIdx.map fun p => match p.1 with
    | .mref m => some (.inr m)
    | .own u => match s.go u with
     | some (.arr fz ty sz ag _) => some (.inl (nmOf fz (2000 + 50 * o + p.2), ty, sz, ag))
     | _ => none
    | _ => none)] else if l.any (fun a => match a with
   | .mref _ => true
   | _ => false) then [.H o n ag (l.map fun a => match a with
    | .mref m => some m
    | _ => none)] else [.C o n ag (l.zipIdx.map fun p => match p.1 with
  | .own u => match s.go u with
   | some (.arr fz ty sz ag _) => some (nmOf fz (2000 + 50 * o + p.2), ty, sz, ag)
   | _ => none
  | .nils => (ops.findSome? fun q => match q.op with
    | .store _ a v => match rootOf P ops 20 a 0 with
     | some (t, off) => match s.gt t with
      | some (.at (.ptr o' off0)) => if Nat.beq o' o && Nat.beq (off + off0) p.2 then guessO P H 0 (2000 + 50 * o + p.2) ops v else none
      | _ => none
     | none => none
    | _ => none).bind fun c => match c with
   | .O _ c ty sz ag => some (c, ty, sz, ag)
   | _ => none
  | _ => none)]
 | some (.arr false ty sz ag _) => [.R o ty sz ag]
 | _ => []
/-- a step through objects' references -/
def deepR (s : St α) (l : List Nat) : List Nat := l ++ l.flatMap fun o => match s.go o with
 | some b => obRefsA b
 | none => []
/-- what a closure has hold of, by the temporary that holds it or is loaded with it -/
def cloOf (s : St α) (ops : List Oper) (t : Nat) : List Nat :=
 let nm : A α → List Nat := fun x => match x with
  | .clo _ a c => deepR s (deepR s (deepR s (a.map (·.1) ++ c.map (·.1))))
  | _ => []
 match rootOf P ops 20 (.tmp t) 0 with
 | some (t', _) => match s.gt t' with
  | some (.at x) => nm x
  | _ => match findOp ops t' with
   | some { op := .load _ a, .. } => match rootOf P ops 20 a 0 with
    | some (u, off) => match s.gt u with
     | some (.at (.ptr o off0)) => match s.go o with
      | some (.cells _ _ _ (.pts l)) => match l[off + off0]? with
       | some x => nm x
       | none => []
      | _ => []
     | _ => []
    | none => []
   | _ => []
 | none => []
/-- what the calls with memory in a loop write -/
def guessCalls (s : St α) (ops : List Oper) : List Nat := ops.flatMap fun q => match q.op with
 | .call { callee := .value (.func f), args, .. } => match H.sigAt (q.dst.getD 0) f with
  | some sg => (sg.args.zip args.toList).flatMap fun p => match p.1 with
   | .at (.dat _) => []
   | _ => match rootOf P ops 20 p.2 0 with
    | some (t, _) => match s.gt t with
     | some v => (if (match p.1 with
       | .at (.ptr o _) => match lookE sg.obs o, lookE sg.robs o with
        | some (.cells _ _ _ (.pts l)), some (.cells _ _ _ (.pts r)) => asFree l r && l.any (fun a => match a with
         | .own _ => true
         | _ => false)
        | _, _ => false
       | _ => false) then [] else svRefs v) ++ (svRefs v).flatMap fun o => match s.go o with
      | some b => obRefsA b
      | none => []
     | none => []
    | none => []
  | none => []
 | .call { callee := .value (.tmp t), .. } => cloOf P s ops t
 | _ => []
def guess (s : St α) (body : Code) : Plan :=
 let ops := opsBack [] body
 let ds := ops.filterMap (·.dst)
 let tk := nub (s.tm.map (·.1)) []
 let okk := nub (s.ob.map (·.1)) []
 let c1 := (tk.filter (has ds)).flatMap (carOfT P H s ops)
 let wo := nub (ops.filterMap fun q => match q.op with
  | .store _ a _ => match rootOf P ops 20 a 0 with
   | some (t, _) => match s.gt t with
    | some (.at (.ptr o _)) => some o
    | _ => (match varOf P s ops (.tmp t) with
     | some o => some o
     | none => arrOf P s ops (.tmp t))
   | none => none
  | .mapUpdate _ m _ _ | .insert _ m _ _ => mapOf P s ops m
  | .call { callee := .builtin .delete, args, .. } => (args[0]?).bind (mapOf P s ops)
  | _ => none) []
 let wo := nub (wo ++ guessCalls P H s ops) []
 let c2 := wo.flatMap (carOfO P H s ops)
 let inH := c2.flatMap fun c => match c with
  | .H _ _ _ ks => ks.filterMap id
  | .G _ _ _ ks => ks.filterMap fun k => match k with
   | some (.inr m) => some m
   | _ => none
  | _ => []
 let inC := (c1 ++ c2).flatMap (Car.owns A' s)
 let c2 := c2.filter fun c => match c with
  | .M o => !has inH o
  | .R o _ _ _ => !has inC o
  | _ => true
 let cars := c1 ++ c2 ++ (match s.go 9999 with
  | some (.ext _) => [.X]
  | _ => [])
 let nw := cars.flatMap Car.news
 let st := cars.flatMap Car.stay
 let ow := cars.flatMap (Car.owns A' s)
 let os := okk.filter fun o => (s.go o).isSome && !has (nw ++ st ++ ow) o && (match s.go o with
  | some (.cells _ _ _ (.pts l)) => !(svRefs (.agg l)).any (has (nw ++ ow))
  | _ => true)
 let ts := tk.filter fun t => !has ds t && (match s.gt t with
  | some v => (svRefs v).all (has (os ++ st))
  | none => false)
 { cars, ts, os }
structure Ctx (α : Type) where
 exits : List (Nat × (St α → T α))
 ret : St α → T α
 plans : List (Nat × Plan)
 cur : Nat
 /-- within the body of a range over a function -/
 round : Bool := false
/-- boxes that are stored into -/
def guessWr (ops : List Oper) : List Nat :=
 let el := ops.any fun q => match q.op with
  | .store _ (.tmp t) _ => match findOp ops t with
   | some { op := .indexAddr .., .. } => true
   | _ => false
  | _ => false
 (ops.filterMap fun q => match q.op with
  | .store _ a _ => (rootOf P ops 20 a 0).map (·.1)
  | _ => none) ++ (if el then ops.filterMap fun q => match q.op with
  | .makeSlice .. => q.dst
  | _ => none else [])
/-- the ways out of a loop -/
def inX (x : Ctx α) (s : St α) : Ctx α := { x with exits := x.exits.map fun e => (e.1, fun s' => e.2 (s'.back s)), ret := fun s' => x.ret (s'.back s) }
/-- the way back to the loop's head -/
def backK (p : Plan) (s s' : St α) : T α := if p.ok A' s' && p.stayed s' then (match leavesGo A' s' p.cars with
 | some zs => .cont s.dep zs
 | none => .fail) else .fail
/-! a range over a function: the body is run by others, in a frame of its own, with a copy of the temporaries -/
/-- at a round's head -/
def roundSt (p : Plan) (s : St α) (d : Nat) (ps : List Nat) (ys zs : List α) : St α :=
  { headGo A' p.cars zs 0 (kept p s) with
    tm := (ps.zipIdx.map fun q => (q.1, some (.at (.dat (A'.nth ys q.2))))) ++ (headGo A' p.cars zs 0 (kept p s)).tm
    dep := d, kt := p.ts, ko := p.os, al := s.al ++ (p.os ++ p.cars.flatMap Car.stay) }
/-- from a round back into the frame around -/
def stripSt (p : Plan) (s s' : St α) : St α :=
  { s' with
    tm := p.ts.filterMap fun t => if has s'.kt t then (s'.gt t).map fun v => (t, some v) else none
    al := s.al, kt := s.kt.filter fun t => has p.ts t && has s'.kt t, ko := s.ko.filter fun o => has p.os o && has s'.ko o }
/-- behind the whole -/
def afterSt (p : Plan) (s : St α) (zs : List α) : St α :=
 { headGo A' p.cars zs 0 (kept p s) with kt := s.kt.filter (has p.ts), ko := s.ko.filter (has p.os) }
def inR (p : Plan) (s : St α) (x : Ctx α) : Ctx α := { x with exits := x.exits.map fun e => (e.1, fun s' => e.2 (stripSt p s s')), ret := fun s' => x.ret (stripSt p s s'), round := true }
def noX (x : Ctx α) : Ctx α := { x with exits := [], ret := fun _ => .fail, round := true }
def Plan.okR (p : Plan) (s : St α) (ps : List Nat) : Bool := p.cars.all Car.isObj && seqL ps && !meets ps p.ts && ps.all (fun t => Nat.blt t s.nt) && !meets (p.cars.flatMap Car.news) (p.os ++ p.cars.flatMap Car.stay)
/-- a nil slice in a cell is told as an empty array of the call's own -/
def nlDl (s : St α) (q : Nat × Nat × Nat × Bool) : Option (Dl α) := match s.gt q.1, tsz P q.2.2.1 with
 | some (.at (.ptr o _)), some sz => match s.go o with
  | some (.cells false n ag (.pts l)) => match l[q.2.1]? with
   | some .nils => if has s.al (600000 + 50 * q.1 + q.2.1) || (Nat.beq (600000 + 50 * q.1 + q.2.1) o || (l.any (aRef (600000 + 50 * q.1 + q.2.1)) || Nat.beq sz 0)) then none else
     some { dst := none, obs := [(o, some (.cells false n ag (.pts (l.set q.2.1 (.own (600000 + 50 * q.1 + q.2.1)))))), (600000 + 50 * q.1 + q.2.1, some (.arr q.2.2.2 q.2.2.1 sz (tag P q.2.2.1) (A'.cst (.sl []))))], born := [600000 + 50 * q.1 + q.2.1] }
   | _ => none
  | _ => none
 | _, _ => none
def nls : List (Nat × Nat × Nat × Bool) → St α → St α
 | [], s => s
 | q :: r, s => nls r (match nlDl A' P s q with
  | some δ => s.ap none δ
  | none => s)
/-- what stands behind a temporary is frozen -/
def St.fzo (s : St α) (p : List Nat) : St α := { s with ob := (p.map fun o => (o, (p.foldl (St.fr A') s).go o)) ++ s.ob, ko := s.ko.filter fun o => !has p o }
def fzs (id : Nat) : List (Nat × Nat) → St α → St α
 | [], s => s
 | q :: r, s => fzs id r (if Nat.beq q.1 id then (match s.gt q.2 with
  | some v => s.fzo A' (svRefs v)
  | none => s) else s)
/-- no party is named -/
def aNoX {β : Type} : A β → Bool
 | .yld => false
 | _ => true
def svNoX {β : Type} : SV β → Bool
 | .at a => aNoX a
 | .agg l => l.all aNoX
def obNoX {β : Type} : Ob β → Bool
 | .ext _ => false
 | .cells _ _ _ (.pts l) => l.all aNoX
 | _ => true
/-- a closure with cells of its own that is ranged over: its function, its cells' form, what they hold; the state without them -/
def rangeClo (s : St α) (g : Operand) : Option (Nat × Sig × List α × St α) := match opv A' s g with
 | some (.at (.clo gf [] c)) => match H.sigAt 0 gf with
  | some sg => do
   let b ← Bind.svs A' s { ids := [], lv := [] } sg.args (c.map fun p => .at (.ptr p.1 p.2))
   let b ← b.obs A' s sg.obs
   let xs ← (List.range b.lv.length).mapM fun i => lookE b.lv i
   if (seqL (b.ids.map (·.1)) && seqL (b.ids.map (·.2))) && seqL (sg.obs.map (·.1)) && b.ids.all (fun p => has (sg.obs.map (·.1)) p.1) && (sg.args.all svNoX && sg.obs.all fun p => obNoX p.2) then
    some (gf, sg, xs, { s with ob := b.ids.map (fun p => (p.2, none)) ++ s.ob, ko := s.ko.filter fun o => !has (b.ids.map (·.2)) o })
   else none
  | none => none
 | _ => none
def notDefer (o : Oper) : Bool := match o.op with
 | .defer _ => false
 | _ => true
def com : Code → Ctx α → St α → (St α → T α) → T α
 | .skip, _, s, k => k s
 | .region id ops draw, _, s, k => if ops.toList.all notDefer then comOps A' P H ops.toList draw ops.toList 0 (fzs A' id H.fz (nls A' P H.nl s)) [] k else .fail
 | .rangeFunc g ps assign body, x, s, k =>
  match x.round, rangeClo A' H s g with
  | false, some (gf, sg, ins, s) =>
   let p := guess A' P H s body
   match leavesGo A' s p.cars with
   | some xs => if p.ok A' s && p.okR s ps.toList then
     .iterS gf sg ins ps.size xs (fun ys zs => com assign (noX x) (roundSt A' p s (s.dep + 1) ps.toList ys zs) fun s1 => com body (noX x) s1 (backK A' p s))
      (fun ys zs => com assign (noX x) (roundSt A' p s s.dep ps.toList ys zs) fun s1 => com body (inR p s x) s1 fun _ => .fail) (fun zs => k (afterSt A' p s zs))
    else .fail
   | none => .fail
  | _, _ => match x.round, (opv A' s g).bind (asE A' s) with
  | false, some it =>
   let p := guess A' P H s body
   match leavesGo A' s p.cars with
   | some xs => if p.ok A' s && p.okR s ps.toList then
     .iter it ps.size xs (fun ys zs => com assign (noX x) (roundSt A' p s (s.dep + 1) ps.toList ys zs) fun s1 => com body (noX x) s1 (backK A' p s))
      (fun ys zs => com assign (noX x) (roundSt A' p s s.dep ps.toList ys zs) fun s1 => com body (inR p s x) s1 fun _ => .fail) (fun zs => k (afterSt A' p s zs))
    else .fail
   | none => .fail
  | _, _ => .fail
 | .seq a b, x, s, k => com a x s fun s => com b x s k
 | .cond c a b, x, s, k => match opv A' s c with
  | some (.at (.kb v)) => if v then com a x s k else com b x s k
  | some (.at (.dat u)) => match c with
   | .tmp t => .ite u (com a x (s.know t true) k) (com b x (s.know t false) k)
   | _ => .fail
  | _ => .fail
 | .block id b, x, s, k => com b { x with exits := (id, k) :: x.exits, cur := id } s k
 | .loop b, x, s, k =>
  let p := (lookE x.plans x.cur).getD (guess A' P H s b)
  match leavesGo A' s p.cars with
  | some xs => if p.ok A' s then
    .loop xs fun ys => com b (inX x s) (p.head A' s ys) (backK A' p s)
   else .fail
  | none => .fail
 | .exit id, x, s, _ => match lookE x.exits id with
  | some k => k s
  | none => .fail
 | .ret, x, s, _ => x.ret s
 | _, _, _, _ => .fail
/-- a result as it stands -/
def resS (s : St α) : ResultVar → Option (SV α)
 | .tmp t => s.gt t
 | .cell a ty => match s.gt a, tsz P ty, tagS P ty with
  | some (.at (.ptr o off)), some m, some g => match s.go o with
   | some (.cells _ n ag cs) => loadCs A' n ag cs m g off
   | _ => none
  | _, _, _ => none
def comRet (fn : Func) (s : St α) : T α :=
 match fn.results.toList.mapM (resS A' P s) with
 | some l =>
  let s := (l.flatMap svRefs).foldl (St.fr A') s
  match l.mapM (asE A' s) with
  | some [x] => .ret x
  | some l => .ret (A'.tp l)
  | none => .fail
 | none => .fail
def initSt (n nt : Nat) (xs : List α) : St α := { tm := (List.range n).map fun i => (i, some (.at (.dat (A'.nth xs i)))), ob := [], nt := Nat.max n nt }
def hintOf (H : Hint) (fn : Func) : Hint := match fn.body with
 | some c => { H with wr := H.wr ++ guessWr P (opsOf c) }
 | none => H
def comF (plans : List (Nat × Plan)) (fn : Func) (xs : List α) : T α :=
 match fn.body with
 | some c => com A' P (hintOf P H fn) c { exits := [], ret := comRet A' P fn, plans, cur := 1000000 } (initSt A' (fn.params.size + fn.nfree) fn.ntmps xs) (comRet A' P fn)
 | none => .fail
/-! with memory: the form's own names stand for what came in -/
def initStS (sg : Sig) (nt : Nat) (xs : List α) : St α :=
 { tm := sg.args.zipIdx.map fun p => (p.2, some (p.1.map (A'.nth xs) id)), ob := sg.obs.map fun p => (p.1, some (p.2.map' (A'.nth xs) id)), nt := Nat.max sg.args.length nt, al := sg.obs.map (·.1) }
/-- the results with memory: the value and the state that tells of it -/
def retS (sg : Sig) (fn : Func) (s : St α) : Option (SV α × St α) := match fn.results.toList with
 | [] => some (.at (.dat (A'.tp [])), s)
 | [q] => match resS A' P s q, sg.res with
  | some v, .at (.dat _) => some (v, (svRefs v).foldl (St.fr A') s)
  | some v, _ => some (v, s)
  | none, _ => none
 | l => match l.mapM (resS A' P s) with
  | some l => ((l.mapM (asE A' ((l.flatMap svRefs).foldl (St.fr A') s))).map fun xs => (.at (.dat (A'.tp xs)), (l.flatMap svRefs).foldl (St.fr A') s))
  | none => none
/-- a nil slice that is handed back where an array of the call's own is asked: an array without elements -/
def nilDl (o : Nat) (fz : Bool) (ty sz : Nat) (ag : Bool) : Dl α := { dst := none, obs := [(o, some (.arr fz ty sz ag (A'.cst (.sl []))))], born := [o] }
def nameNil (sg : Sig) (r : SV α × St α) : SV α × St α := match r.1, sg.res with
 | .at .nils, .at (.own o) => match lookE sg.robs o with
  | some (.arr fz ty sz ag _) => if Nat.blt 0 sz && !has (sg.obs.map (·.1)) o then (.at (.own o), r.2.ap none (nilDl A' o fz ty sz ag)) else r
  | _ => r
 | _, _ => r
def comRetS (sg : Sig) (fn : Func) (s : St α) : T α := match (retS A' P sg fn s).map (nameNil A' sg) with
  | some r => match (Bind.sv A' r.2 { ids := (sg.obs.filterMap fun p => if has (sg.robs.map (·.1)) p.1 then some (p.1, p.1) else none), lv := [] } sg.res r.1).bind fun b => b.obs A' r.2 sg.robs with
    | some b => match (List.range sg.nout).mapM fun i => lookE b.lv i with
      | some ys => if seqL (b.ids.map (·.1)) && seqL (b.ids.map (·.2)) && seqL (sg.robs.map (·.1)) && b.lv.length == sg.nout &&
           b.ids.all (fun p => has (sg.robs.map (·.1)) p.1) then .ret (A'.tp ys) else .fail
      | none => .fail
    | none => .fail
  | none => .fail
def comFS (plans : List (Nat × Plan)) (sg : Sig) (fn : Func) (xs : List α) : T α :=
 match fn.body with
 | some c => com A' P (hintOf P H fn) c { exits := [], ret := comRetS A' P sg fn, plans, cur := 1000000 } (initStS A' sg fn.ntmps xs) (comRetS A' P sg fn)
 | none => .fail
/-! a function that is handed the party's function: at these places of its arguments; the state is the last of the leaves -/
/-! a closure with cells of its own that is handed the party's function -/
end
end Go.Lf
/- States in a world: what they say, and how they are kept. -/
namespace Go.Lf
variable [Mk] [Gl]
open Go.RowKit
/-- what is fixed for a call: the blocks that it was given; names that keep their handles, and these -/
structure Fx where
 s : Nat → Prop
 al : List Nat
 ρ0 : Nat → Value
instance : CoeFun Fx (fun _ => Nat → Prop) := ⟨Fx.s⟩
/-- the state 'gt, go' holds of temporaries and world; w0 is the world that the call found, S the blocks that it was given -/
structure R (S : Fx) (F0 : Nat → Nat → Prop) (w0 : World) (F : Nat → Nat → Prop) (ρ : Nat → Value) (tmps : Array Value) (w : World)
  (gt : Nat → Option (SV PV)) (go : Nat → Option (Ob PV)) : Prop where
 kp : Kp S.s w0 w
 f0 : ∀ b o, F0 b o → F b o
 f1 : ∀ b o, F b o → F0 b o ∨ w0.heap.size ≤ b ∨ S b
 f2 : ∀ b o, F b o → b < w.heap.size
 f3 : ∀ b o, F0 b o → Same w0 w b o
 tm : ∀ t sv, gt t = some sv → ∃ v, tmps[t]? = some v ∧ RepS F ρ w v sv
 ob : ObsR F ρ w go
 mine : ∀ o b, go o = some b → ∀ k, HB (ρ o) k → w0.heap.size ≤ k ∨ S k
 al : ∀ o ∈ S.al, ρ o = S.ρ0 o
theorem Kp.refl (S : Nat → Prop) (w : World) : Kp S w w := ⟨rfl, rfl, rfl, Nat.le_refl _, fun _ _ _ => rfl⟩
theorem Kp.trans {S X : Nat → Prop} {a b c : World} (h : Kp S a b) (k : Kp X b c) (hx : ∀ i, i < a.heap.size → X i → S i) : Kp S a c :=
 ⟨k.os.trans h.os, k.tape.trans h.tape, k.output.trans h.output, Nat.le_trans h.size k.size, fun i hi hs =>
  (k.block i (Nat.lt_of_lt_of_le hi h.size) (fun hxi => hs (hx i hi hxi))).trans (h.block i hi hs)⟩
theorem Same.refl (w : World) (b o : Nat) : Same w w b o := ⟨rfl, fun _ _ h => h, fun cs t fr h => ⟨cs, t, h, rfl⟩⟩
theorem Same.trans {a b c : World} {x o : Nat} (h : Same a b x o) (k : Same b c x o) : Same a c x o := ⟨k.1.trans h.1, fun es cl hm => k.2.1 es cl (h.2.1 es cl hm), fun cs t fr hm => by
  obtain ⟨cs', t', g1, g2⟩ := h.2.2 cs t fr hm
  obtain ⟨cs2, t2, g3, g4⟩ := k.2.2 cs' t' fr g1
  exact ⟨cs2, t2, g3, g4.trans g2⟩⟩
/-! ### what is kept -/
theorem isCell_of_rep {F : Nat → Nat → Prop} {w : World} {v : Value} {x : PV} (h : Rep F w v x) (hv : v.oneCell' = true) : x.isCell = true := by
 cases h <;> simp_all [PV.isCell, Value.oneCell']
theorem RepP.new {ρ ρ' : Nat → Value} {v : Value} {o off : Nat} (h : RepP ρ v o off) (hn : ρ' o = ρ o) : RepP ρ' v o off := by
 obtain ⟨b, h1, h2⟩ := h; exact ⟨b, by rw [hn]; exact h1, h2⟩
theorem RepPs.new {ρ ρ' : Nat → Value} {vs : Array Value} {l : List (Nat × Nat)} (h : RepPs ρ vs l) (hn : ∀ o ∈ l.map (·.1), ρ' o = ρ o) : RepPs ρ' vs l :=
 ⟨h.1, fun i v p h1 h2 => (h.2 i v p h1 h2).new (hn _ (List.mem_map_of_mem (List.mem_of_getElem? h2)))⟩
theorem RepA.mono {F F' : Nat → Nat → Prop} {ρ ρ' : Nat → Value} {w w' : World} {v : Value} {a : A PV} (h : RepA F ρ w v a) (hF : ∀ b o, F b o → F' b o)
  (hw : ∀ b o, F b o → Same w w' b o) (hr : ∀ o ∈ aRefs a, ρ' o = ρ o) : RepA F' ρ' w' v a := by
 cases a with
 | dat x => exact Rep.mono h hF hw
 | kb b => exact h
 | nils => exact h
 | und => exact h
 | ptr o off => exact RepP.new h (hr o (by simp [aRefs]))
 | own o => exact ⟨by rw [hr o (by simp [aRefs])]; exact h.1, h.2⟩
 | eptr o i sz off =>
  obtain ⟨g, len, cap, k, n, h1, h2⟩ := h
  exact ⟨g, len, cap, k, n, by rw [hr o (by simp [aRefs])]; exact h1, h2⟩
 | aptr o i =>
  obtain ⟨b, k, n, h1, h2⟩ := h
  exact ⟨b, k, n, by rw [hr o (by simp [aRefs])]; exact h1, h2⟩
 | bptr x n ag off =>
  obtain ⟨h1, b, o, h2, h3⟩ := h
  exact ⟨h1, b, o, h2, h3.mono hF hw⟩
 | mref o => exact ⟨by rw [hr o (by simp [aRefs])]; exact h.1, h.2⟩
 | clo f x y =>
  obtain ⟨va, vc, h1, h2, h3⟩ := h
  refine ⟨va, vc, h1, h2.new fun o ho => hr o ?_, h3.new fun o ho => hr o ?_⟩ <;> simp [aRefs] at ho ⊢
  ·exact .inl ho
  ·exact .inr ho
 | yld => exact h
theorem RepS.mono {F F' : Nat → Nat → Prop} {ρ ρ' : Nat → Value} {w w' : World} {v : Value} {a : SV PV} (h : RepS F ρ w v a) (hF : ∀ b o, F b o → F' b o)
  (hw : ∀ b o, F b o → Same w w' b o) (hr : ∀ o ∈ svRefs a, ρ' o = ρ o) : RepS F' ρ' w' v a := by
 cases a with
 | «at» x => exact RepA.mono h hF hw hr
 | agg l =>
  obtain ⟨cs, h1, h2, h3⟩ := h
  refine ⟨cs, h1, h2, fun i c x hc hx => ⟨(h3 i c x hc hx).1.mono hF hw fun o ho => hr o ?_, (h3 i c x hc hx).2⟩⟩
  simp only [svRefs, List.mem_flatMap]
  exact ⟨x, List.mem_of_getElem? hx, ho⟩
def obRefs : Ob PV → List Nat
 | .cells _ _ _ (.pts l) => l.flatMap aRefs
 | _ => []
theorem RepO.lt {F : Nat → Nat → Prop} {ρ : Nat → Value} {w : World} {o : Nat} {b : Ob PV} (h : RepO F ρ w o b) : ∀ k, HB (ρ o) k → k < w.heap.size := by
 intro k hk
 have fin : ∀ {j : Nat} {x : Obj}, w.heap[j]? = some x → j < w.heap.size := fun hx => (Array.getElem?_eq_some_iff.1 hx).1
 cases b with
 | cells fz n ag cs =>
  obtain ⟨b, c, ty, h1, h2, _⟩ := h
  obtain rfl := (HB_hb (by rw [h1]; rfl)).1 hk; exact fin h2
 | arr fz ty sz ag x =>
  obtain ⟨es, _, _, _, ⟨h1, _⟩ | ⟨g, cap, cur, h1, h2, _⟩⟩ := h
  ·exact absurd hk (HB_none (by rw [h1]; rfl) (fun bs e => by rw [h1] at e; cases e) k)
  ·obtain rfl := (HB_hb (by rw [h1]; rfl)).1 hk; exact fin h2
 | map fz x =>
  obtain ⟨r, es, cl, ks, vs, h1, _, h2, _⟩ := h
  obtain rfl := (HB_hb (by rw [h1]; rfl)).1 hk; exact fin h2
 | ext x =>
  obtain ⟨bs, h1, h2, _⟩ := h
  rw [h1] at hk
  exact h2 k (HB_encB.1 hk)
/-- an object that nothing has touched -/
theorem RepO.keep {F F' : Nat → Nat → Prop} {ρ ρ' : Nat → Value} {w w' : World} {o : Nat} {b : Ob PV} (h : RepO F ρ w o b) (hF : ∀ b o, F b o → F' b o)
  (hw : ∀ b o, F b o → Same w w' b o) (hr : ∀ u ∈ obRefs b, ρ' u = ρ u) (ho : ρ' o = ρ o)
  (hbk : ∀ k, HB (ρ o) k → w'.heap[k]? = w.heap[k]?) (hF' : ∀ k, HB (ρ o) k → ∀ j, F' k j → F k j) (hkq : Kp (fun _ => True) w w') : RepO F' ρ' w' o b := by
 cases b with
 | cells fz n ag cs =>
  obtain ⟨b, c, ty, h1, h2, h3, h4, h5⟩ := h
  have hk : HB (ρ o) b := .inl (by rw [h1]; rfl)
  refine ⟨b, c, ty, by rw [ho]; exact h1, by rw [hbk b hk]; exact h2, h3, ?_, fun j => ⟨fun hj => (h5 j).1 (hF' b hk j hj), fun hj => hF _ _ ((h5 j).2 hj)⟩⟩
  cases cs with
  | wh x => exact ⟨h4.1, h4.2.1, fun i u y a b => (h4.2.2 i u y a b).mono hF hw⟩
  | pts l =>
   refine ⟨h4.1, h4.2.1, fun i u a x y => ⟨(h4.2.2 i u a x y).1.mono hF hw fun o' ho' => hr o' ?_, (h4.2.2 i u a x y).2⟩⟩
   simp only [obRefs, List.mem_flatMap]
   exact ⟨a, List.mem_of_getElem? y, ho'⟩
 | arr fz ty sz ag x =>
  obtain ⟨es, h1, h2, h3, h4⟩ := h
  refine ⟨es, h1, h2, h3, ?_⟩
  rcases h4 with ⟨h4, h5⟩ | ⟨g, cap, cur, h4, h5, h6, h7, h8, h9, h10, hgn⟩
  ·exact .inl ⟨by rw [ho]; exact h4, h5⟩
  ·have hk : HB (ρ o) g := .inl (by rw [h4]; rfl)
   refine .inr ⟨g, cap, cur, by rw [ho]; exact h4, by rw [hbk g hk]; exact h5, h6, h7, h8, fun i y j z a b => ?_, fun j => ⟨fun hj => (h10 j).1 (hF' g hk j hj), fun hj => hF _ _ ((h10 j).2 hj)⟩, hgn⟩
   obtain ⟨u, hu, hr⟩ := h9 i y j z a b
   exact ⟨u, hu, hr.mono hF hw⟩
 | map fz x =>
  obtain ⟨r, es, cl, ks, vs, h1, h2, h3, h4, h5, h6, h7, h8⟩ := h
  have hk : HB (ρ o) r := .inl (by rw [h1]; rfl)
  exact ⟨r, es, cl, ks, vs, by rw [ho]; exact h1, h2, by rw [hbk r hk]; exact h3, h4, h5, fun i e y a b => (h6 i e y a b).mono hF hw, fun i e y a b => (h7 i e y a b).mono hF hw,
   fun j => ⟨fun hj => (h8 j).1 (hF' r hk j hj), fun hj => hF _ _ ((h8 j).2 hj)⟩⟩
 | ext x =>
  obtain ⟨bs, h1, h2, h3, G, h4, h5⟩ := h
  have hk : ∀ b ∈ bs, HB (ρ o) b := fun b hb => by rw [h1]; exact HB_encB.2 hb
  exact ⟨bs, by rw [ho]; exact h1, fun b hb => Nat.lt_of_lt_of_le (h2 b hb) hkq.size, fun b j hb hj => h3 b j hb (hF' b (hk b hb) j hj), G, fun b j hj => hF _ _ (h4 b j hj),
   Gl.x.stable x bs G w w' h5 (fun b hb => hbk b (hk b hb)) (fun b j hj => hw b j (h4 b j hj)) hkq.size hkq.os hkq.tape hkq.output⟩
/-- ONE STEP: X are the blocks that it may have written, N the names whose handle is new, U the objects that are told anew -/
theorem R.step {S : Fx} {F0 : Nat → Nat → Prop} {w0 : World} {F F' : Nat → Nat → Prop} {ρ ρ' : Nat → Value} {tmps tmps' : Array Value} {w w' : World}
  {gt gt' : Nat → Option (SV PV)} {go go' : Nat → Option (Ob PV)} (h : R S F0 w0 F ρ tmps w gt go) (X N U : Nat → Prop)
  (hkp : Kp X w w') (hX : ∀ k, k < w.heap.size → X k → w0.heap.size ≤ k ∨ S k)
  (hF : ∀ b o, F b o → F' b o) (hS : ∀ b o, F b o → Same w w' b o) (hF1 : ∀ b o, F' b o → F b o ∨ w.heap.size ≤ b ∨ X b) (hF2 : ∀ b o, F' b o → b < w'.heap.size)
  (hN : ∀ o, ¬ N o → ρ' o = ρ o) (hal : ∀ o ∈ S.al, ¬ N o)
  (htm : ∀ t sv, gt' t = some sv → (gt t = some sv ∧ tmps'[t]? = tmps[t]? ∧ ∀ o ∈ svRefs sv, ¬ N o) ∨ ∃ v, tmps'[t]? = some v ∧ RepS F' ρ' w' v sv)
  (hob : ∀ o b, go' o = some b → (go o = some b ∧ ¬ N o ∧ ¬ U o ∧ ∀ u ∈ obRefs b, ¬ N u) ∨ (U o ∧ RepO F' ρ' w' o b))
  (hUX : ∀ o b, go o = some b → ¬ N o → ¬ U o → ∀ k, HB (ρ o) k → ¬ X k)
  (hU1 : ∀ o b, go' o = some b → U o → ∀ k, HB (ρ' o) k → w.heap.size ≤ k ∨ X k)
  (hU2 : ∀ o o' b b', go' o = some b → go' o' = some b' → U o → U o' → o ≠ o' → ∀ k, HB (ρ' o) k → ¬ HB (ρ' o') k) :
  R S F0 w0 F' ρ' tmps' w' gt' go' := by
 have keepB : ∀ o b, go o = some b → ¬ N o → ¬ U o → ∀ k, HB (ρ o) k → k < w.heap.size ∧ ¬ X k := fun o b h1 h2 h3 k hk =>
  ⟨(h.ob.rep o b h1).lt k hk, hUX o b h1 h2 h3 k hk⟩
 refine ⟨h.kp.trans hkp fun i hi hx => ?_, fun b o hf => hF _ _ (h.f0 b o hf), fun b o hf => ?_, hF2, fun b o hf => (h.f3 b o hf).trans (hS b o (h.f0 b o hf)), ?_, ⟨?_, ?_⟩, ?_, fun o ho => (hN o (hal o ho)).trans (h.al o ho)⟩
 ·rcases hX i (Nat.lt_of_lt_of_le hi h.kp.size) hx with h1 | h1
  ·omega
  ·exact h1
 ·rcases hF1 b o hf with h1 | h1 | h1
  ·exact h.f1 b o h1
  ·exact .inr (.inl (Nat.le_trans h.kp.size h1))
  ·by_cases hlt : b < w.heap.size
   ·exact .inr (hX b hlt h1)
   ·exact .inr (.inl (Nat.le_trans h.kp.size (by omega)))
 ·intro t sv ht
  rcases htm t sv ht with ⟨h1, h2, h3⟩ | h1
  ·obtain ⟨v, hv, hr⟩ := h.tm t sv h1
   exact ⟨v, by rw [h2]; exact hv, hr.mono hF hS fun o ho => hN o (h3 o ho)⟩
  ·exact h1
 ·intro o b ho
  rcases hob o b ho with ⟨h1, h2, h3, h4⟩ | ⟨_, h1⟩
  ·refine (h.ob.rep o b h1).keep hF hS (fun u hu => hN u (h4 u hu)) (hN o h2) (fun k hk => ?_) (fun k hk j hj => ?_) ⟨hkp.os, hkp.tape, hkp.output, hkp.size, fun _ _ h => absurd trivial h⟩
   ·exact hkp.block k (keepB o b h1 h2 h3 k hk).1 (keepB o b h1 h2 h3 k hk).2
   ·rcases hF1 k j hj with h5 | h5 | h5
    ·exact h5
    ·have := (keepB o b h1 h2 h3 k hk).1; omega
    ·exact absurd h5 (keepB o b h1 h2 h3 k hk).2
  ·exact h1
 ·intro o o' b b' ho ho' hne k hk hk'
  rcases hob o b ho with ⟨h1, h2, h3, _⟩ | ⟨hu, _⟩ <;> rcases hob o' b' ho' with ⟨h1', h2', h3', _⟩ | ⟨hu', _⟩
  ·rw [hN o h2] at hk; rw [hN o' h2'] at hk'
   exact h.ob.sep o o' b b' h1 h1' hne k hk hk'
  ·rw [hN o h2] at hk
   have := keepB o b h1 h2 h3 k hk
   rcases hU1 o' b' ho' hu' k hk' with h5 | h5
   ·omega
   ·exact this.2 h5
  ·rw [hN o' h2'] at hk'
   have := keepB o' b' h1' h2' h3' k hk'
   rcases hU1 o b ho hu k hk with h5 | h5
   ·omega
   ·exact this.2 h5
  ·exact hU2 o o' b b' ho ho' hu hu' hne k hk hk'
 ·intro o b ho k hk
  rcases hob o b ho with ⟨h1, h2, _, _⟩ | ⟨hu, _⟩
  ·rw [hN o h2] at hk; exact h.mine o b h1 k hk
  ·rcases hU1 o b ho hu k hk with h5 | h5
   ·exact .inl (Nat.le_trans h.kp.size h5)
   ·by_cases hlt : k < w.heap.size
    ·exact hX k hlt h5
    ·exact .inl (Nat.le_trans h.kp.size (by omega))
/-- fewer things known -/
theorem R.sub {S : Fx} {F0 : Nat → Nat → Prop} {w0 : World} {F : Nat → Nat → Prop} {ρ : Nat → Value} {tmps : Array Value} {w : World}
  {gt gt' : Nat → Option (SV PV)} {go go' : Nat → Option (Ob PV)} (h : R S F0 w0 F ρ tmps w gt go) (h1 : ∀ t sv, gt' t = some sv → gt t = some sv) (h2 : ∀ o b, go' o = some b → go o = some b) :
  R S F0 w0 F ρ tmps w gt' go' :=
 ⟨h.kp, h.f0, h.f1, h.f2, h.f3, fun t sv ht => h.tm t sv (h1 t sv ht), ⟨fun o b ho => h.ob.rep o b (h2 o b ho), fun o o' b b' a c => h.ob.sep o o' b b' (h2 o b a) (h2 o' b' c)⟩,
  fun o b ho => h.mine o b (h2 o b ho), h.al⟩
/-- the count of draws is no part of what is told -/
theorem Rep.drew {F : Nat → Nat → Prop} {w : World} {v : Value} {x : PV} (n : Nat) (h : Rep F w v x) : Rep F { w with drawn := n } v x := h.mono (fun _ _ h => h) fun _ _ _ => ⟨rfl, fun _ _ h => h, fun cs t fr h => ⟨cs, t, h, rfl⟩⟩
theorem R.drew {S : Fx} {F0 : Nat → Nat → Prop} {w0 : World} {F : Nat → Nat → Prop} {ρ : Nat → Value} {tmps : Array Value} {w : World}
  {gt : Nat → Option (SV PV)} {go : Nat → Option (Ob PV)} (n : Nat) (h : R S F0 w0 F ρ tmps w gt go) : R S F0 w0 F ρ tmps { w with drawn := n } gt go :=
 h.step (fun _ => False) (fun _ => False) (fun _ => False) ⟨rfl, rfl, rfl, Nat.le_refl _, fun _ _ _ => rfl⟩ (fun _ _ h => h.elim) (fun _ _ h => h) (fun _ _ _ => ⟨rfl, fun _ _ h => h, fun cs t fr h => ⟨cs, t, h, rfl⟩⟩) (fun _ _ h => .inl h)
  h.f2 (fun _ _ => rfl) (fun _ _ h => h) (fun t sv ht => .inl ⟨ht, rfl, fun _ _ h => h⟩) (fun o b ho => .inl ⟨ho, fun h => h, fun h => h, fun _ _ h => h⟩) (fun _ _ _ _ _ _ _ h => h) (fun _ _ _ h => h.elim) (fun _ _ _ _ _ _ h => h.elim)
/-- a temporary is given a value that needs nothing new -/
theorem R.val {S : Fx} {F0 : Nat → Nat → Prop} {w0 : World} {F : Nat → Nat → Prop} {ρ : Nat → Value} {tmps tmps' : Array Value} {w : World}
  {gt gt' : Nat → Option (SV PV)} {go : Nat → Option (Ob PV)} (h : R S F0 w0 F ρ tmps w gt go)
  (htm : ∀ t sv, gt' t = some sv → (gt t = some sv ∧ tmps'[t]? = tmps[t]?) ∨ ∃ v, tmps'[t]? = some v ∧ RepS F ρ w v sv) : R S F0 w0 F ρ tmps' w gt' go :=
 h.step (fun _ => False) (fun _ => False) (fun _ => False) (Kp.refl _ _) (fun _ _ h => h.elim) (fun _ _ h => h) (fun _ _ _ => Same.refl _ _ _) (fun _ _ h => .inl h)
  h.f2 (fun _ _ => rfl) (fun _ _ h => h) (fun t sv ht => (htm t sv ht).imp (fun h => ⟨h.1, h.2, fun _ _ h => h⟩) id) (fun o b ho => .inl ⟨ho, fun h => h, fun h => h, fun _ _ h => h⟩) (fun _ _ _ _ _ _ _ h => h) (fun _ _ _ h => h.elim)
  (fun _ _ _ _ _ _ h => h.elim)
end Go.Lf
/- What is read off a state: values, contents, parts. -/
namespace Go.Lf
variable [Mk] [Gl]
open Go.RowKit
section
variable {F : Nat → Nat → Prop} {ρ : Nat → Value} {w : World}
theorem rep_arr {o ty sz : Nat} {ag : Bool} {x : PV} (h : RepO F ρ w o (.arr true ty sz ag x)) : Rep F w (ρ o) x := by
 obtain ⟨es, rfl, h2, h3, ⟨h4, rfl⟩ | ⟨g, cap, cur, h4, h5, h6, h7, h8, h9, h10, hgn⟩⟩ := h
 ·rw [h4]; exact .sl0 none
 ·rw [h4]
  have hl : ∀ y ∈ es, y.cells.length = sz := fun y hy => (okc_cells (h3 y hy).1).1
  refine .sl g 0 cap sz es (fun i j => (cur[i * sz + j]?).getD undef) h6 h7 hl (fun y hy => (h3 y hy).2) (fun i y j z hi hj => ?_) (fun i y j z hi hj => ?_) ⟨hgn, fun _ i x j y _ _ => by simp [World.frozen?, h5]⟩
  ·obtain ⟨u, hu, _⟩ := h9 i y j z hi hj
   have hlt : i < es.length := by
    rcases Nat.lt_or_ge i es.length with h | h
    ·exact h
    ·rw [List.getElem?_eq_none h] at hi; cases hi
   have hjl : j < sz := by
    rcases Nat.lt_or_ge j y.cells.length with h | h
    ·rw [hl y (List.mem_of_getElem? hi)] at h; exact h
    ·rw [List.getElem?_eq_none h] at hj; cases hj
   refine ⟨(h10 _).2 ⟨rfl, ?_⟩, ?_⟩
   ·have : i * sz + sz ≤ es.length * sz := by rw [← Nat.succ_mul]; exact Nat.mul_le_mul_right _ hlt
    omega
   ·rw [Nat.zero_add, cell_of_row w g _ cur ty (0, 0) h5, hu]; rfl
  ·obtain ⟨u, hu, hr⟩ := h9 i y j z hi hj
   rw [hu]; exact hr
theorem rep_map {o : Nat} {x : PV} (h : RepO F ρ w o (.map true x)) : Rep F w (ρ o) x := by
 obtain ⟨r, es, cl, ks, vs, h1, rfl, h3, h4, h5, h6, h7, h8⟩ := h
 rw [h1]
 exact .mp r cl es ks vs h3 ((h8 0).2 ⟨rfl, rfl⟩) h4 h5 h6 h7
theorem rep_cells {o n : Nat} {ag : Bool} {x : PV} (h : RepO F ρ w o (.cells true n ag (.wh x))) : ∃ b, ρ o = .pointer (some ⟨b, 0, none⟩) ∧ Rep F w (.pointer (some ⟨b, 0, none⟩)) (.box x) := by
 obtain ⟨b, c, ty, h1, h2, h3, ⟨h4, h5, h6⟩, h7⟩ := h
 refine ⟨b, h1, ?_⟩
 have h4 := okc_cells h4
 have inb : ∀ j y, x.cells[j]? = some y → j < n := fun j y hj => by
  rcases Nat.lt_or_ge j x.cells.length with h | h
  ·omega
  ·rw [List.getElem?_eq_none h] at hj; cases hj
 have get : ∀ j, j < n → ∃ u, c[j]? = some u := fun j hj => ⟨c[j]'(by omega), by simp [hj, h3]⟩
 refine .box b 0 x (fun j => (c[j]?).getD undef) h5 (fun j y hj => ?_) fun j y hj => ?_
 ·obtain ⟨u, hu⟩ := get j (inb j y hj)
  exact ⟨(h7 _).2 ⟨rfl, by have := inb j y hj; omega⟩, by rw [Nat.zero_add, cell_of_row w b j c ty (0, 0) h2, hu]; rfl⟩
 ·obtain ⟨u, hu⟩ := get j (inb j y hj)
  rw [hu]; exact h6 j u y hu hj
theorem asA_rep {s : St PV} (ho : ObsR F ρ w s.go) {v : Value} {a : A PV} {x : PV} (h : RepA F ρ w v a) (hx : asA pvAlg s a = some x) : Rep F w v x := by
 cases a with
 | dat y => simp [asA] at hx; subst hx; exact h
 | kb b => simp [asA, pvAlg] at hx; subst hx; rw [show v = .bool b from h]; exact .bool b
 | nils => simp [asA, pvAlg] at hx; subst hx; rw [show v = .slice none 0 0 from h]; exact .sl0 none
 | und => simp [asA] at hx
 | ptr o off =>
  cases off with
  | succ n => simp [asA] at hx
  | zero =>
   simp only [asA] at hx
   split at hx
   ·rename_i n ag y hg
    simp [pvAlg] at hx; subst hx
    obtain ⟨b, h1, h2⟩ := rep_cells (ho.rep o _ hg)
    obtain ⟨b', h3, h4⟩ := h
    rw [h1] at h3; simp at h3; subst h3
    rw [h4]; exact h2
   ·cases hx
 | own o =>
  simp only [asA] at hx
  split at hx
  ·rename_i hg
   simp at hx; subst hx
   rw [h.1]; exact rep_arr (ho.rep o _ hg)
  ·cases hx
 | eptr o i sz off => simp [asA] at hx
 | aptr o i => simp [asA] at hx
 | bptr y n ag off =>
  cases off with
  | succ n => simp [asA] at hx
  | zero =>
   simp [asA, pvAlg] at hx; subst hx
   obtain ⟨_, b, o, h2, h3⟩ := h
   rw [h2]; exact h3
 | mref o =>
  simp only [asA] at hx
  split at hx
  ·rename_i hg
   simp at hx; subst hx
   rw [h.1]; exact rep_map (ho.rep o _ hg)
  ·cases hx
 | clo f a c => simp [asA] at hx
 | yld => simp [asA] at hx
theorem mapM_some {α β : Type} {f : α → Option β} : ∀ {l : List α} {r : List β}, l.mapM f = some r → r.length = l.length ∧ ∀ (i : Nat) (x : α) (y : β), l[i]? = some x → r[i]? = some y → f x = some y
 | [], r, h => by simp at h; subst h; exact ⟨rfl, fun i x y h => by simp at h⟩
 | a :: l, r, h => by
  rw [List.mapM_cons] at h
  cases hf : f a with
  | none => rw [hf] at h; simp at h
  | some b =>
   rw [hf] at h
   cases hl : l.mapM f with
   | none => rw [hl] at h; simp at h
   | some bs =>
    rw [hl] at h
    simp at h; subst h
    obtain ⟨h1, h2⟩ := mapM_some hl
    refine ⟨by simp [h1], fun i x y hx hy => ?_⟩
    cases i with
    | zero => simp at hx hy; subst hx; subst hy; exact hf
    | succ i => simp at hx hy; exact h2 i x y hx hy
theorem asE_rep {s : St PV} (ho : ObsR F ρ w s.go) {v : Value} {a : SV PV} {x : PV} (h : RepS F ρ w v a) (hx : asE pvAlg s a = some x) : Rep F w v x := by
 cases a with
 | «at» y => exact asA_rep ho h hx
 | agg l =>
  obtain ⟨cs, rfl, h2, h3⟩ := h
  simp only [asE, Option.map_eq_some_iff] at hx
  obtain ⟨r, hr, rfl⟩ := hx
  obtain ⟨h4, h5⟩ := mapM_some hr
  have key : ∀ (i : Nat) (c : Value) (y : PV), cs[i]? = some c → r[i]? = some y → Rep F w c y ∧ y.isCell = true := fun i c y hc hy => by
   have hi : i < l.length := by
    rw [← h4]
    rcases Nat.lt_or_ge i r.length with h | h
    ·exact h
    ·rw [List.getElem?_eq_none h] at hy; cases hy
   have hl : l[i]? = some l[i] := by simp [hi]
   have := asA_rep ho (h3 i c _ hc hl).1 (h5 i _ y hl hy)
   exact ⟨this, isCell_of_rep this (h3 i c _ hc hl).2⟩
  refine .agg cs r (by omega) (fun y hy => ?_) fun i c y hc hy => (key i c y hc hy).1
  obtain ⟨i, hi, rfl⟩ := List.getElem_of_mem hy
  have hci : i < cs.size := by omega
  exact (key i cs[i] r[i] (by simp [hci]) (by simp [hi])).2
/-- the content of a slice of the call's own, frozen or not: its cells -/
structure RepL (F : Nat → Nat → Prop) (w : World) (v : Value) (es : List PV) (sz : Nat) : Prop where
 cells : ((∃ p : Option Addr, v = .slice p 0 0) ∧ es = []) ∨ ∃ b o cap, v = .slice (some ⟨b, o, none⟩) es.length cap ∧ es.length ≤ cap ∧ cap ≤ maxLen ∧
  (∀ (i : Nat) (y : PV) (j : Nat) (z : PV), es[i]? = some y → y.cells[j]? = some z → ∃ u, w.cell? ⟨b, o + i * sz + j, none⟩ = some u ∧ Rep F w u z)
 one : ∀ y ∈ es, y.cells.length = sz ∧ ∀ z ∈ y.cells, z.isCell = true
/-- what stands behind a slice, wherever it is -/
theorem rep_unm {v : Value} {y : PV} {l : List PV} (h : Rep F w v y) (hy : y.unm = .sl l) : (∃ p : Option Addr, v = .slice p 0 0 ∧ l = []) ∨ ∃ (b o cap n : Nat) (g : Nat → Nat → Value), v = .slice (some ⟨b, o, none⟩) l.length cap ∧ l.length ≤ cap ∧ cap ≤ maxLen ∧
  (∀ x ∈ l, x.cells.length = n) ∧ (∀ x ∈ l, ∀ y ∈ x.cells, y.isCell = true) ∧ (∀ (i : Nat) (x : PV) (j : Nat) (y : PV), l[i]? = some x → x.cells[j]? = some y → F b (o + i * n + j) ∧ w.cell? ⟨b, o + i * n + j, none⟩ = some (g i j)) ∧
  ∀ (i : Nat) (x : PV) (j : Nat) (y : PV), l[i]? = some x → x.cells[j]? = some y → Rep F w (g i j) y := by
 cases h <;> simp only [PV.unm, PV.sl.injEq, reduceCtorEq] at hy
 ·subst hy; exact .inl ⟨_, rfl, rfl⟩
 rotate_left
 ·subst hy; exact .inl ⟨_, rfl, rfl⟩
 all_goals subst hy; exact .inr ⟨_, _, _, _, _, rfl, ‹_›, ‹_›, ‹_›, ‹_›, ‹_›, ‹_›⟩
theorem repL_of_rep {v : Value} {y : PV} {es : List PV} {sz : Nat} (h : Rep F w v y) (hy : y.unm = .sl es) (hs : ∀ y ∈ es, y.cells.length = sz) : RepL F w v es sz := by
 rcases rep_unm h hy with ⟨p, rfl, rfl⟩ | ⟨b, o, cap, n, g, rfl, hcap, hm, hn, hc, hg, hr⟩
 ·exact ⟨.inl ⟨⟨p, rfl⟩, rfl⟩, by simp⟩
 ·
  refine ⟨.inr ⟨b, o, cap, rfl, hcap, hm, fun i y j z hi hj => ?_⟩, fun y hy => ⟨hs y hy, hc y hy⟩⟩
  have : n = sz := by rw [← hn y (List.mem_of_getElem? hi), hs y (List.mem_of_getElem? hi)]
  subst this
  exact ⟨_, (hg i y j z hi hj).2, hr i y j z hi hj⟩
theorem repL_of_obj {o ty sz : Nat} {fz ag : Bool} {x : PV} (h : RepO F ρ w o (.arr fz ty sz ag x)) : ∃ es, x = .sl es ∧ RepL F w (ρ o) es sz ∧ ∀ y ∈ es, y.okc sz ag = true := by
 obtain ⟨es, rfl, h2, h3, h4⟩ := h
 refine ⟨es, rfl, ⟨?_, fun y hy => ⟨(okc_cells (h3 y hy).1).1, (h3 y hy).2⟩⟩, fun y hy => (h3 y hy).1⟩
 rcases h4 with h4 | ⟨g, cap, cur, h4, h5, h6, h7, h8, h9, h10, hgn⟩
 ·exact .inl ⟨⟨none, h4.1⟩, h4.2⟩
 ·refine .inr ⟨g, 0, cap, h4, h6, h7, fun i y j z hi hj => ?_⟩
  obtain ⟨u, hu, hr⟩ := h9 i y j z hi hj
  exact ⟨u, by rw [Nat.zero_add, cell_of_row w g _ cur ty (0, 0) h5]; exact hu, hr⟩
theorem asL_rep {s : St PV} (ho : ObsR F ρ w s.go) {v : Value} {a : SV PV} {x : PV} (h : RepS F ρ w v a) (hx : asL pvAlg s a = some x) :
  Rep F w v x ∨ ∃ es sz, x = .sl es ∧ RepL F w v es sz := by
 unfold asL at hx
 split at hx
 ·rename_i o
  split at hx
  ·rename_i hg
   simp at hx; subst hx
   obtain ⟨es, h1, h2, _⟩ := repL_of_obj (ho.rep o _ hg)
   rw [show v = ρ o from h.1]
   exact .inr ⟨es, _, h1, h2⟩
  ·cases hx
 ·exact .inl (asE_rep ho h hx)
theorem cstV_rep {v : Value} {x : PV} (h : cstV v = some x) : Rep F w v x := by
 unfold cstV at h
 split at h <;> first
  | (simp at h; subst h; constructor)
  | cases h
theorem cstV_isCell {v : Value} {x : PV} (h : cstV v = some x) : v.oneCell' = true := by
 unfold cstV at h
 split at h <;> first
  | rfl
  | cases h
theorem cstA_rep {v : Value} {a : A PV} (h : cstA pvAlg v = some a) : RepA F ρ w v a ∧ v.oneCell' = true := by
 unfold cstA at h
 split at h
 ·simp at h; subst h; exact ⟨rfl, rfl⟩
 ·simp at h; subst h; exact ⟨rfl, rfl⟩
 ·simp only [Option.map_eq_some_iff] at h
  obtain ⟨x, hx, rfl⟩ := h
  exact ⟨cstV_rep hx, cstV_isCell hx⟩
theorem cstS_rep {v : Value} {a : SV PV} (h : cstS pvAlg v = some a) : RepS F ρ w v a := by
 unfold cstS at h
 split at h
 ·simp at h; subst h; exact (rfl : _ = _)
 ·simp at h; subst h; exact (rfl : _ = _)
 ·rename_i cs
  simp only [Option.map_eq_some_iff] at h
  obtain ⟨l, hl, rfl⟩ := h
  obtain ⟨h1, h2⟩ := mapM_some hl
  refine ⟨cs, rfl, by simpa using h1.symm, fun i c x hc hx => ?_⟩
  exact cstA_rep (h2 i c x (by simpa using hc) hx)
 ·simp only [Option.map_eq_some_iff] at h
  obtain ⟨x, hx, rfl⟩ := h
  exact cstV_rep hx
theorem lookE_in {β : Type} : ∀ (l : List (Nat × β)) (t : Nat) (v : β), lookE l t = some v → (t, v) ∈ l
 | [], _, _, h => by cases h
 | (q, u) :: l, t, v, h => by
  simp only [lookE] at h
  split at h
  ·rename_i e
   have := Nat.eq_of_beq_eq_true e
   subst this; simp at h; subst h; simp
  ·exact List.mem_cons_of_mem _ (lookE_in l t v h)
theorem opv_rep {s : St PV} {a : Act} (hgl : GlOk F w) (ht : ∀ t sv, s.gt t = some sv → ∃ v, a.tmps[t]? = some v ∧ RepS F ρ w v sv) {o : Operand} {sv : SV PV} (h : opv pvAlg s o = some sv) :
  RepS F ρ w (a.eval o) sv := by
 cases o with
 | tmp t =>
  obtain ⟨v, hv, hr⟩ := ht t sv h
  have : a.eval (.tmp t) = v := by simp [Act.eval, hv]
  rw [this]; exact hr
 | const v => exact cstS_rep h
 | global g =>
  simp only [opv, Option.map_eq_some_iff] at h
  obtain ⟨e, he, rfl⟩ := h
  obtain ⟨h1, h2, _⟩ := hgl.2 _ (lookE_in _ _ _ he)
  exact ⟨h1, g, 0, rfl, h2⟩
 | func f =>
  simp [opv, pvAlg] at h; subst h
  exact Rep.fn f #[] #[] [] [] rfl rfl (fun i u x h => by simp at h) (fun i u x h => by simp at h)
/-! ### parts of variables -/
theorem range_map_get {β : Type} (f : Nat → β) (n i : Nat) (x : β) (h : ((List.range n).map f)[i]? = some x) : i < n ∧ x = f i := by
 simp only [List.getElem?_map, Option.map_eq_some_iff] at h
 obtain ⟨j, hj, rfl⟩ := h
 obtain ⟨h1, h2⟩ := List.getElem?_eq_some_iff.1 hj
 simp at h1 h2
 exact ⟨h1, by rw [h2]⟩
theorem cells_of_agg {x : PV} (h : x.isAg = true) : x = .agg x.cells := by
 cases x <;> simp_all [PV.isAg, PV.cells]
theorem cells_of_one {x : PV} (h : x.isAg = false) : x.cells = [x] := by
 cases x <;> simp_all [PV.isAg, PV.cells]
/-- a cell's reading -/
theorem cel_rep {x y : PV} {i : Nat} (h : x.cells[i]? = some y) : pvAlg.cel i x = y := by
 simp [pvAlg, List.getD, h]
/-- what a place's content explodes to -/
theorem explode_rep {fz : Bool} {n : Nat} {ag : Bool} {c : Array Value} {cs : Cs PV} (hc : c.size = n) (h : RepCs F ρ w fz n ag c cs) :
  (explode pvAlg n ag cs).length = n ∧ ∀ (i : Nat) (u : Value) (a : A PV), c[i]? = some u → (explode pvAlg n ag cs)[i]? = some a → RepA F ρ w u a ∧ u.oneCell' = true := by
 cases cs with
 | wh x =>
  obtain ⟨h1, h2, h3⟩ := h
  obtain ⟨hl, hg⟩ := okc_cells h1
  cases ag with
  | true =>
   refine ⟨by simp [explode], fun i u a hu ha => ?_⟩
   simp only [explode, if_true] at ha
   obtain ⟨hi, rfl⟩ := range_map_get _ _ _ _ ha
   have hxi : x.cells[i]? = some (x.cells[i]'(by omega)) := by simp [hl, hi]
   have hr := h3 i u _ hu hxi
   refine ⟨?_, oneCell_of_rep hr (h2 _ (List.getElem_mem _))⟩
   show Rep F w u (pvAlg.cel i x)
   rw [cel_rep hxi]; exact hr
  | false =>
   have hx := cells_of_one hg
   have hn : n = 1 := by rw [← hl, hx]; rfl
   refine ⟨by simp [explode, hn], fun i u a hu ha => ?_⟩
   simp only [explode, Bool.false_eq_true, if_false] at ha
   cases i with
   | succ i => simp at ha
   | zero =>
    simp at ha; subst ha
    have hxi : x.cells[0]? = some x := by rw [hx]; rfl
    have hr := h3 0 u x hu hxi
    exact ⟨hr, oneCell_of_rep hr (h2 x (by rw [hx]; simp))⟩
 | pts l => exact ⟨h.2.1, h.2.2⟩
/-- the cells as one datum -/
theorem wholeCs_rep {s : St PV} (ho : ObsR F ρ w s.go) {fz : Bool} {n : Nat} {c : Array Value} {cs : Cs PV} (hc : c.size = n) (h : RepCs F ρ w fz n true c cs) {x : PV} (hx : wholeCs pvAlg s n cs = some x) :
  RepCs F ρ w fz n true c (.wh x) := by
 cases cs with
 | wh y => simp [wholeCs] at hx; subst hx; exact h
 | pts l =>
  simp only [wholeCs] at hx
  split at hx
  ·simp only [Option.map_eq_some_iff] at hx
   obtain ⟨xs, hxs, rfl⟩ := hx
   obtain ⟨_, hl, hr⟩ := h
   obtain ⟨hlen, hget⟩ := mapM_some hxs
   have key : ∀ (i : Nat) (u : Value) (y : PV), c[i]? = some u → xs[i]? = some y → Rep F w u y ∧ u.oneCell' = true := fun i u y hu hy => by
    have hi : i < l.length := by rw [← hlen]; exact (List.getElem?_eq_some_iff.1 hy).1
    have hli : l[i]? = some l[i] := by simp [hi]
    obtain ⟨h1, h2⟩ := hr i u l[i] hu hli
    exact ⟨asA_rep ho h1 (hget i l[i] y hli hy), h2⟩
   have hcell : ∀ y ∈ xs, y.isCell = true := fun y hy => by
    obtain ⟨i, hi, rfl⟩ := List.getElem_of_mem hy
    have hic : i < c.size := by omega
    obtain ⟨h1, h2⟩ := key i c[i] xs[i] (by simp [hic]) (by simp [hi])
    exact isCell_of_rep h1 h2
   refine ⟨?_, hcell, fun i u y hu hy => (key i u y hu hy).1⟩
   show ((xs.length == n && true == true) && xs.all PV.isCell) = true
   simp only [Bool.and_eq_true, beq_iff_eq, List.all_eq_true]
   exact ⟨⟨by omega, trivial⟩, hcell⟩
  ·cases hx
/-- what a load of m cells at off yields -/
theorem loadCs_rep {fz : Bool} {n : Nat} {ag : Bool} {c : Array Value} {cs : Cs PV} (hc : c.size = n) (h : RepCs F ρ w fz n ag c cs) {m off : Nat} {mag : Bool} {sv : SV PV}
  (hl : loadCs pvAlg n ag cs m mag off = some sv) :
  (mag = true → off + m ≤ n ∧ RepS F ρ w (.agg (c.extract off (off + m))) sv) ∧ (mag = false → m = 1 ∧ ∃ u, c[off]? = some u ∧ RepS F ρ w u sv) := by
 cases cs with
 | wh x =>
  obtain ⟨h1, h2, h3⟩ := h
  obtain ⟨hlen, hg⟩ := okc_cells h1
  simp only [loadCs] at hl
  cases mag with
  | true =>
   refine ⟨fun _ => ?_, (fun h => by cases h)⟩
   simp only [if_true] at hl
   split at hl
   ·rename_i hcond
    simp only [Bool.and_eq_true, beq_iff_eq] at hcond
    obtain ⟨⟨hag, ho⟩, hm⟩ := hcond
    subst ho; subst hm; subst hag
    simp at hl; subst hl
    refine ⟨by omega, ?_⟩
    show Rep F w _ x
    have hex : c.extract 0 (0 + m) = c := by rw [Nat.zero_add, ← hc]; simp
    rw [hex, cells_of_agg hg]
    exact .agg c x.cells (by omega) (fun y hy => h2 y hy) fun i u y hu hy => h3 i u y hu hy
   ·split at hl
    ·rename_i hcond
     simp only [Bool.and_eq_true, decide_eq_true_eq] at hcond
     simp [pvAlg] at hl; subst hl
     refine ⟨hcond.2, ?_⟩
     show Rep F w _ (.agg ((x.cells.drop off).take m))
     refine .agg _ _ (by simp; omega) (fun y hy => h2 y (List.mem_of_mem_drop (List.mem_of_mem_take hy))) fun i u y hu hy => ?_
     simp only [Array.getElem?_extract] at hu
     split at hu
     ·rw [List.getElem?_take] at hy
      split at hy
      ·rw [List.getElem?_drop] at hy
       exact h3 _ u y hu hy
      ·cases hy
     ·cases hu
    ·cases hl
  | false =>
   refine ⟨(fun h => by cases h), fun _ => ?_⟩
   simp only [Bool.false_eq_true, if_false] at hl
   split at hl
   ·rename_i hcond
    simp only [Bool.and_eq_true, beq_iff_eq, decide_eq_true_eq] at hcond
    refine ⟨hcond.1, c[off]'(by omega), by simp [hc, hcond.2], ?_⟩
    have hcu : c[off]? = some (c[off]'(by omega)) := by simp [hc, hcond.2]
    have hxi : x.cells[off]? = some (x.cells[off]'(by omega)) := by simp [hlen, hcond.2]
    have hr := h3 off _ _ hcu hxi
    split at hl
    ·simp at hl; subst hl
     show Rep F w _ (pvAlg.cel off x)
     rw [cel_rep hxi]; exact hr
    ·rename_i hag
     simp at hl; subst hl
     have hx := cells_of_one (by rw [hg]; simpa using hag)
     have hoff : off = 0 := by rw [hx] at hlen; simp at hlen; omega
     subst hoff
     have : x.cells[0]? = some x := by rw [hx]; rfl
     rw [this] at hxi
     show Rep F w _ x
     have e : x.cells[0]'(by omega) = x := by simpa using hxi.symm
     rw [e] at hr; exact hr
   ·cases hl
 | pts l =>
  obtain ⟨h1, h2, h3⟩ := h
  simp only [loadCs] at hl
  cases mag with
  | true =>
   refine ⟨fun _ => ?_, (fun h => by cases h)⟩
   simp only [if_true] at hl
   split at hl
   ·rename_i hcond
    simp only [decide_eq_true_eq] at hcond
    simp at hl; subst hl
    refine ⟨hcond, c.extract off (off + m), rfl, by simp; omega, fun i u a hu ha => ?_⟩
    simp only [Array.getElem?_extract] at hu
    split at hu
    ·rw [List.getElem?_take] at ha
     split at ha
     ·rw [List.getElem?_drop] at ha
      exact h3 _ u a hu ha
     ·cases ha
    ·cases hu
   ·cases hl
  | false =>
   refine ⟨(fun h => by cases h), fun _ => ?_⟩
   simp only [Bool.false_eq_true, if_false] at hl
   split at hl
   ·rename_i hcond
    simp only [beq_iff_eq] at hcond
    simp only [Option.map_eq_some_iff] at hl
    obtain ⟨a, ha, rfl⟩ := hl
    have hlt : off < n := by
     rw [← h2]
     rcases Nat.lt_or_ge off l.length with h | h
     ·exact h
     ·rw [List.getElem?_eq_none h] at ha; cases ha
    have hcu : c[off]? = some (c[off]'(by omega)) := by simp [hc, hlt]
    exact ⟨hcond, _, hcu, (h3 off _ a hcu ha).1⟩
   ·cases hl
theorem atom_one {v : Value} {x : A PV} (h : RepA F ρ w v x) (h1 : ∀ y, x ≠ .dat y) (h2 : x ≠ .und) : v.oneCell' = true := by
 cases x with
 | dat y => exact absurd rfl (h1 y)
 | kb b => rw [show v = .bool b from h]; rfl
 | nils => rw [show v = .slice none 0 0 from h]; rfl
 | und => exact absurd rfl h2
 | ptr o off => obtain ⟨b, _, rfl⟩ := h; rfl
 | own o => exact h.2
 | eptr o i sz off => obtain ⟨_, _, _, _, _, _, _, _, _, rfl⟩ := h; rfl
 | aptr o i => obtain ⟨_, _, _, _, _, _, rfl⟩ := h; rfl
 | bptr y n ag off => obtain ⟨_, _, _, rfl, _⟩ := h; rfl
 | mref o => exact h.2
 | clo f a c => obtain ⟨_, _, rfl, _⟩ := h; rfl
 | yld => rw [show v = Gl.x.yv from h]; exact Gl.x.one
theorem cells_of_oneV {v : Value} (h : v.oneCell' = true) : v.cells = #[v] := by cases v <;> simp_all [Value.cells, Value.oneCell']
/-- the cells of a value that is put into a variable -/
theorem svCells_rep {v : Value} {a : SV PV} {m : Nat} {mag : Bool} {l : List (A PV)} (h : RepS F ρ w v a) (hd : ∀ x, a = .at (.dat x) → x.okc m mag = true)
  (hl : svCells pvAlg m mag a = some l) :
  v.cells.size = m ∧ l.length = m ∧ (mag = false → m = 1) ∧ ∀ (i : Nat) (u : Value) (x : A PV), v.cells[i]? = some u → l[i]? = some x → RepA F ρ w u x ∧ u.oneCell' = true := by
 unfold svCells at hl
 split at hl
 ·rename_i x
  have hok := okc_cells (hd x rfl)
  have hall := okc_all (hd x rfl)
  have hr : Rep F w v x := h
  obtain ⟨h1, h2⟩ := hr.cells
  split at hl
  ·rename_i hm
   simp at hl; subst hl
   refine ⟨by omega, by simp, fun h => by simp [hm] at h, fun i u a hu ha => ?_⟩
   obtain ⟨hi, rfl⟩ := range_map_get _ _ _ _ ha
   have hxi : x.cells[i]? = some (x.cells[i]'(by omega)) := by simp [hok.1, hi]
   have hru := h2 i u _ hu hxi
   refine ⟨?_, oneCell_of_rep hru (hall _ (List.getElem_mem _))⟩
   show Rep F w u (pvAlg.cel i x)
   rw [cel_rep hxi]; exact hru
  ·rename_i hm
   split at hl
   ·rename_i hm1
    simp at hl; subst hl
    have hx := cells_of_one (by rw [hok.2]; simpa using hm)
    have h1v : v.oneCell' = true := oneCell_of_rep hr (hall x (by rw [hx]; simp))
    rw [cells_of_oneV h1v]
    refine ⟨by simpa using (by simpa using hm1 : m = 1).symm, by simpa using (by simpa using hm1 : m = 1).symm, fun _ => by simpa using hm1, fun i u a hu ha => ?_⟩
    cases i with
    | zero => simp at hu ha; subst hu; subst ha; exact ⟨h, h1v⟩
    | succ i => simp at ha
   ·cases hl
 ·cases hl
 ·rename_i x hnd hnu
  split at hl
  ·rename_i hm
   simp only [Bool.and_eq_true, beq_iff_eq] at hm
   simp at hl; subst hl
   have h1 : v.oneCell' = true := atom_one h (fun y e => hnd y (by rw [e])) (fun e => hnu (by rw [e]))
   rw [cells_of_oneV h1]
   refine ⟨by simpa using hm.2.symm, by simpa using hm.2.symm, fun _ => hm.2, fun i u a hu ha => ?_⟩
   cases i with
   | zero => simp at hu ha; subst hu; subst ha; exact ⟨h, h1⟩
   | succ i => simp at ha
  ·cases hl
 ·rename_i l'
  split at hl
  ·rename_i hcond
   simp only [Bool.and_eq_true, beq_iff_eq] at hcond
   simp at hl; subst hl
   obtain ⟨cs, rfl, h2, h3⟩ := h
   exact ⟨by rw [← hcond.2]; exact h2, hcond.2, fun h => by simp [hcond.1] at h, h3⟩
  ·cases hl
theorem mem_get_arr {cs : Array Value} {u : Value} (h : u ∈ cs.toList) : ∃ i : Nat, cs[i]? = some u := by
 obtain ⟨i, hi, rfl⟩ := List.getElem_of_mem h
 exact ⟨i, by simp at hi; simp [hi]⟩
/-- a variable behind a store -/
theorem storeCs_rep {n m off : Nat} {ag mag : Bool} {c : Array Value} {cs cs' : Cs PV} {v : Value} {sv : SV PV} (hc : c.size = n) (h : RepCs F ρ w false n ag c cs) (hv : RepS F ρ w v sv)
  (hd : ∀ x, sv = .at (.dat x) → x.okc m mag = true) (hs : storeCs pvAlg n ag cs m mag off sv = some cs') :
  off + m ≤ n ∧ v.cells.size = m ∧ (∀ u ∈ v.cells.toList, u.oneCell' = true) ∧ RepCs F ρ w false n ag (c.toList.take off ++ v.cells.toList ++ c.toList.drop (off + m)).toArray cs' := by
 have one : ∀ {l : List (A PV)}, v.cells.size = m → l.length = m → (∀ (i : Nat) (u : Value) (x : A PV), v.cells[i]? = some u → l[i]? = some x → RepA F ρ w u x ∧ u.oneCell' = true) →
   ∀ u ∈ v.cells.toList, u.oneCell' = true := by
  intro l hm hl hr u hu
  obtain ⟨i, hi⟩ := mem_get_arr hu
  have hlt : i < l.length := by
   rw [hl, ← hm]
   exact (Array.getElem?_eq_some_iff.1 hi).1
  exact (hr i u l[i] hi (by simp [hlt])).2
 unfold storeCs at hs
 split at hs
 ·rename_i hcond
  simp only [Bool.and_eq_true, beq_iff_eq] at hcond
  obtain ⟨⟨rfl, rfl⟩, rfl⟩ := hcond
  have full : v.cells.size = m → (c.toList.take 0 ++ v.cells.toList ++ c.toList.drop (0 + m)).toArray = v.cells := fun hm => by
   have : c.toList.drop (0 + m) = [] := by simp; omega
   rw [this]; simp
  split at hs
  ·rename_i x
   simp at hs; subst hs
   have hok := hd x rfl
   have hr : Rep F w v x := hv
   obtain ⟨h1, h2⟩ := hr.cells
   have hm : v.cells.size = m := by rw [h1]; exact (okc_cells hok).1
   refine ⟨by omega, hm, fun u hu => ?_, ?_⟩
   ·obtain ⟨i, hi⟩ := mem_get_arr hu
    have hlt : i < x.cells.length := by rw [← h1]; exact (Array.getElem?_eq_some_iff.1 hi).1
    exact oneCell_of_rep (h2 i u x.cells[i] hi (by simp [hlt])) (okc_all hok _ (List.getElem_mem _))
   ·rw [full hm]
    exact ⟨hok, okc_all hok, h2⟩
  ·simp only [Option.map_eq_some_iff] at hs
   obtain ⟨l, hl, rfl⟩ := hs
   obtain ⟨h1, h2, _, h3⟩ := svCells_rep hv hd hl
   refine ⟨by omega, h1, one h1 h2 h3, ?_⟩
   rw [full h1]
   exact ⟨rfl, h2, h3⟩
 ·split at hs
  ·cases hs
  ·split at hs
   ·rename_i hle
    simp only [decide_eq_true_eq] at hle
    simp only [Option.map_eq_some_iff] at hs
    obtain ⟨l, hl, rfl⟩ := hs
    obtain ⟨h1, h2, _, h3⟩ := svCells_rep hv hd hl
    obtain ⟨e1, e2⟩ := explode_rep hc h
    refine ⟨hle, h1, one h1 h2 h3, rfl, by simp; omega, fun i u x hu hx => ?_⟩
    rw [List.getElem?_toArray] at hu
    have hct : c.toList.length = n := by simpa using hc
    have hvt : v.cells.toList.length = m := by simpa using h1
    by_cases hi1 : i < off
    ·rw [List.append_assoc, List.getElem?_append_left (by simp; omega)] at hu hx
     simp only [List.getElem?_take, hi1, if_true] at hu hx
     exact e2 i u x (by simpa using hu) hx
    ·by_cases hi2 : i < off + m
     ·rw [List.getElem?_append_left (by simp; omega), List.getElem?_append_right (by simp; omega)] at hu hx
      have l1 : (c.toList.take off).length = off := by simp; omega
      have l2 : ((explode pvAlg n ag cs).take off).length = off := by simp; omega
      rw [l1] at hu; rw [l2] at hx
      exact h3 (i - off) u x (by simpa using hu) hx
     ·rw [List.getElem?_append_right (by simp; omega)] at hu hx
      have l1 : (c.toList.take off ++ v.cells.toList).length = off + m := by simp; omega
      have l2 : ((explode pvAlg n ag cs).take off ++ l).length = off + m := by simp; omega
      rw [l1, List.getElem?_drop] at hu; rw [l2, List.getElem?_drop] at hx
      exact e2 _ u x (by simpa using hu) hx
   ·cases hs
end
end Go.Lf
/- Runs of single operations on memory, and states behind an operation. -/
namespace Go.Lf
variable [Mk] [Gl]
open Go.RowKit
section
variable {P : Program}
theorem tsz_info {t n : Nat} (h : tsz P t = some n) : ∃ i, P.info? t = some i ∧ i.size = n := by
 simpa [tsz] using h
theorem tby_info {t n : Nat} (h : tby P t = some n) : ∃ i, P.info? t = some i ∧ i.bytes = n := by
 simpa [tby] using h
theorem tel_un {t e : Nat} (h : tel P t = some e) : P.underlying t = some (.slice e) := by
 unfold tel at h
 split at h
 ·rename_i h2; simp at h; subst h; exact h2
 ·cases h
theorem run_isAgg {t : Nat} {g : Bool} (h : tagS P t = some g) (w : World) : (isAgg t).run P w = .ok g w := by
 simp only [tagS, Option.map_eq_some_iff] at h
 obtain ⟨d, hd, rfl⟩ := h
 unfold isAgg
 rw [Sem.run_bind, run_underlying hd w]
 cases d <;> simp
theorem run_sizeOf' {t n : Nat} (h : tsz P t = some n) (w : World) : (sizeOf t).run P w = .ok n w := by
 obtain ⟨i, hi, rfl⟩ := tsz_info h
 simp [sizeOf, typeInfo, hi]
/-- a load of m cells from a place whose cells are c's -/
theorem run_load_place {w : World} {b base n m off t : Nat} {c : Array Value} (hc : ∀ j, j < n → w.cell? ⟨b, base + j, none⟩ = c[j]?) (hn : c.size = n)
  (hs : tsz P t = some m) {g : Bool} (hg : tagS P t = some g) (hm : off + m ≤ n) (h1 : g = false → m = 1) :
  (Instr.loadAt t (.pointer (some ⟨b, base + off, none⟩))).run P w =
   .ok (if g then .agg (c.extract off (off + m)) else (c[off]?).getD undef) w := by
 unfold Instr.loadAt Instr.sureAddr loadVar
 cases g with
 | true =>
  have hl : (loadCells ⟨b, base + off, none⟩ m).run P w = .ok (c.extract off (off + m)) w := by
   have hlen : (c.extract off (off + m)).toList.length = m := by simp; omega
   have := run_loadCells_list (P := P) w ⟨b, base + off, none⟩ (c.extract off (off + m)).toList (fun j v hv => by
    rw [Addr.add_mid]
    rw [Array.getElem?_toList, Array.getElem?_extract] at hv
    split at hv
    ·rename_i hj
     rw [show base + off + j = base + (off + j) by omega, hc _ (by omega)]
     exact hv
    ·cases hv)
   rw [hlen, Array.toArray_toList] at this
   exact this
  simp [run_isAgg hg, run_sizeOf' hs, hl]
 | false =>
  have hm1 := h1 rfl
  have hlt : off < c.size := by omega
  have : w.cell? ⟨b, base + off, none⟩ = some (c[off]'hlt) := by rw [hc off (by omega)]; simp [hlt]
  simp [run_isAgg hg, this, hlt]
theorem setRow_cells {w : World} {b : Nat} {c c' : Array Value} {ty : Nat} (h : w.heap[b]? = some (.cells c ty (0, 0))) : (w.setRow b c').heap[b]? = some (.cells c' ty (0, 0)) :=
 setRow_heap w b c c' ty (0, 0) h
/-- a store of a value's cells into a block -/
theorem run_store_block {w : World} {b off t m : Nat} {c : Array Value} {ty : Nat} (hb : w.heap[b]? = some (.cells c ty (0, 0))) {v : Value} (hs : tsz P t = some m) (hv : v.cells.size = m)
  (h1 : ∀ u ∈ v.cells.toList, u.oneCell' = true) (hm : off + m ≤ c.size) :
  (Instr.storeAt t (.pointer (some ⟨b, off, none⟩)) v).run P w = .ok () (w.setRow b (c.toList.take off ++ v.cells.toList ++ c.toList.drop (off + m)).toArray) := by
 have hst := run_storeCells_at P b off ty v.cells.toList 0 c w hb (by simp; omega) h1
 simp only [Nat.add_zero] at hst
 have e : (⟨b, off, none⟩ : Addr) = { block := b, off := off } := rfl
 simp only [Instr.storeAt, Instr.sureAddr, storeVar, Sem.run_bind, Sem.run_pure, Result.andThen_ok, run_sizeOf' hs, hv, ne_eq, not_true_eq_false, if_false]
 have hl : v.cells.toList.length = m := by simpa using hv
 rw [hl] at hst
 exact hst
end
/-! ### states behind an operation -/
theorem look_cons {β : Type} (k : Nat) (v : Option β) (r : List (Nat × Option β)) (t : Nat) : look ((k, v) :: r) t = if k = t then v else look r t := by
 simp only [look]
 by_cases h : k = t
 ·simp [h]
 ·have : Nat.beq k t = false := by
   cases hb : Nat.beq k t with
   | false => rfl
   | true => exact absurd (Nat.eq_of_beq_eq_true hb) h
  simp [this, h]
theorem look_append {β : Type} : ∀ (l r : List (Nat × Option β)) (t : Nat), look (l ++ r) t = if t ∈ l.map (·.1) then look l t else look r t
 | [], r, t => by simp
 | (k, v) :: l, r, t => by
  rw [List.cons_append, look_cons, look_cons, look_append l r t]
  by_cases h : k = t
  ·simp [h]
  ·simp only [h, if_false, List.map_cons, List.mem_cons, Ne.symm h, false_or]
theorem look_some {β : Type} : ∀ (l : List (Nat × Option β)) (t : Nat) (v : β), look l t = some v → (t, some v) ∈ l
 | [], _, _, h => by cases h
 | (k, u) :: l, t, v, h => by
  rw [look_cons] at h
  by_cases hk : k = t
  ·subst hk; simp at h; subst h; simp
  ·simp only [hk, if_false] at h; exact List.mem_cons_of_mem _ (look_some l t v h)
theorem look_keys {β : Type} (l : List (Nat × Option β)) (t : Nat) (v : β) (h : look l t = some v) : t ∈ l.map (·.1) :=
 List.mem_map.2 ⟨_, look_some l t v h, rfl⟩
/-- a name's mentions are struck -/
theorem look_strike_eq {β : Type} (p : β → Bool) (l : List (Nat × Option β)) (t : Nat) :
  look (strike p l) t = (look l t).bind fun u => if p u then none else some u := by
 unfold strike
 split
 ·generalize hK : (l.filterMap fun q => match look l q.1 with
   | some u => if p u then some (q.1, (none : Option β)) else none
   | none => none) = K
  have hmem : ∀ q : Nat × Option β, q ∈ K ↔ (q.2 = none ∧ (∃ v, (q.1, v) ∈ l) ∧ ∃ u, look l q.1 = some u ∧ p u = true) := by
   intro q
   rw [← hK, List.mem_filterMap]
   constructor
   ·rintro ⟨x, hx, hq⟩
    split at hq
    ·rename_i u hu
     split at hq
     ·simp at hq; subst hq; exact ⟨rfl, ⟨x.2, hx⟩, u, hu, ‹_›⟩
     ·cases hq
    ·cases hq
   ·rintro ⟨h1, ⟨v, hv⟩, u, hu, hp⟩
    refine ⟨(q.1, v), hv, ?_⟩
    simp only [hu, hp, if_true]
    rw [← h1]
  have hlk : ∀ (K : List (Nat × Option β)), (∀ q ∈ K, q.2 = none) → look K t = none := by
   intro K
   induction K with
   | nil => intro _; rfl
   | cons q K ih =>
    intro hq
    obtain ⟨k, u⟩ := q
    rw [look_cons]
    have hu : u = none := hq (k, u) (by simp)
    subst hu
    split
    ·rfl
    ·exact ih fun q hq' => hq q (by simp [hq'])
  rw [look_append]
  split
  ·rename_i hin
   rw [hlk K fun q hq => ((hmem q).1 hq).1]
   obtain ⟨q, hq, rfl⟩ := List.mem_map.1 hin
   obtain ⟨_, _, u, hu, hp⟩ := (hmem q).1 hq
   simp [hu, hp]
  ·rename_i hnot
   cases hl : look l t with
   | none => rfl
   | some u =>
    simp only [Option.bind_some]
    cases hp : p u with
    | false => simp
    | true =>
     exfalso; apply hnot
     exact List.mem_map.2 ⟨(t, none), (hmem _).2 ⟨rfl, ⟨_, look_some l t u hl⟩, u, hl, hp⟩, rfl⟩
 ·rename_i hany
  cases hl : look l t with
  | none => rfl
  | some u =>
   simp only [Option.bind_some]
   have : p u = false := by
    have h1 := hany
    simp only [List.any_eq_true, not_exists, not_and] at h1
    have h2 := h1 (t, some u) (look_some l t u hl)
    simpa using h2
   simp [this]
theorem look_strike {β : Type} (p : β → Bool) (l : List (Nat × Option β)) (t : Nat) (v : β)
  (h : look (strike p l) t = some v) : look l t = some v ∧ p v = false := by
 rw [look_strike_eq] at h
 simp only [Option.bind_eq_some_iff] at h
 obtain ⟨u, hu, h⟩ := h
 split at h
 ·cases h
 ·rename_i hp; simp at h; subst h; exact ⟨hu, by simpa using hp⟩
theorem look_strike_of {β : Type} (p : β → Bool) (l : List (Nat × Option β)) (t : Nat) (v : β) (h : look l t = some v) (hp : p v = false) : look (strike p l) t = some v := by
 rw [look_strike_eq, h]; simp [hp]
theorem beqF {o d : Nat} (h : Nat.beq o d = false) : o ≠ d := by
 rintro rfl
 simp at h
theorem aRef_mem {d : Nat} {a : A PV} (h : aRef d a = false) : d ∉ aRefs a := by
 cases a with
 | ptr o off => simpa [aRefs] using (beqF h).symm
 | own o => simpa [aRefs] using (beqF h).symm
 | eptr o i sz off => simpa [aRefs] using (beqF h).symm
 | aptr o i => simpa [aRefs] using (beqF h).symm
 | mref o => simpa [aRefs] using (beqF h).symm
 | clo f x y =>
  simp only [aRef, Bool.or_eq_false_iff, List.any_eq_false] at h
  simp only [aRefs, List.mem_append, List.mem_map, not_or, not_exists, not_and]
  exact ⟨fun p hp => by simpa using h.1 p hp, fun p hp => by simpa using h.2 p hp⟩
 | _ => simp [aRefs]
theorem svRef_mem {d : Nat} {a : SV PV} (h : svRef d a = false) : d ∉ svRefs a := by
 cases a with
 | «at» x => exact aRef_mem h
 | agg l =>
  simp only [svRef, List.any_eq_false] at h
  simp only [svRefs, List.mem_flatMap, not_exists, not_and]
  exact fun x hx => aRef_mem (by simpa using h x hx)
theorem obRef_mem {d : Nat} {b : Ob PV} (h : obRef d b = false) : d ∉ obRefs b := by
 cases b with
 | cells fz n ag cs =>
  cases cs with
  | wh x => simp [obRefs]
  | pts l =>
   simp only [obRef, List.any_eq_false] at h
   simp only [obRefs, List.mem_flatMap, not_exists, not_and]
   exact fun x hx => aRef_mem (by simpa using h x hx)
 | arr => simp [obRefs]
 | map => simp [obRefs]
 | ext => simp [obRefs]
theorem kill_gt {s : St PV} {d t : Nat} {v : SV PV} (h : (s.kill d).gt t = some v) : s.gt t = some v ∧ d ∉ svRefs v := by
 obtain ⟨h1, h2⟩ := look_strike (svRef d) s.tm t v h
 exact ⟨h1, svRef_mem h2⟩
theorem kill_go {s : St PV} {d t : Nat} {v : Ob PV} (h : (s.kill d).go t = some v) : s.go t = some v ∧ d ∉ obRefs v := by
 obtain ⟨h1, h2⟩ := look_strike (obRef d) s.ob t v h
 exact ⟨h1, obRef_mem h2⟩
theorem kills_gt {t : Nat} {v : SV PV} : ∀ (l : List Nat) {s : St PV}, (l.foldl St.kill s).gt t = some v → s.gt t = some v ∧ ∀ d ∈ l, d ∉ svRefs v
 | [], _, h => ⟨h, by simp⟩
 | d :: l, s, h => by
  obtain ⟨h1, h2⟩ := kills_gt l (s := s.kill d) h
  obtain ⟨h3, h4⟩ := kill_gt h1
  exact ⟨h3, by simpa using ⟨h4, h2⟩⟩
theorem kills_go {t : Nat} {v : Ob PV} : ∀ (l : List Nat) {s : St PV}, (l.foldl St.kill s).go t = some v → s.go t = some v ∧ ∀ d ∈ l, d ∉ obRefs v
 | [], _, h => ⟨h, by simp⟩
 | d :: l, s, h => by
  obtain ⟨h1, h2⟩ := kills_go l (s := s.kill d) h
  obtain ⟨h3, h4⟩ := kill_go h1
  exact ⟨h3, by simpa using ⟨h4, h2⟩⟩
/-- a temporary behind an operation: it is the operation's own, or it was there -/
theorem ap_gt {s : St PV} {dst : Option Nat} {δ : Dl PV} {t : Nat} {v : SV PV} (h : (s.ap dst δ).gt t = some v) :
  (dst = some t ∧ δ.dst = some v) ∨ (dst ≠ some t ∧ s.gt t = some v ∧ ∀ d ∈ δ.born, d ∉ svRefs v) := by
 unfold St.ap St.gt at h
 cases dst with
 | none => exact .inr ⟨by simp, kills_gt _ h⟩
 | some d =>
  simp only [look_cons] at h
  by_cases hd : d = t
  ·subst hd; simp at h; exact .inl ⟨rfl, h⟩
  ·simp only [hd, if_false] at h
   exact .inr ⟨by simpa using hd, kills_gt _ h⟩
theorem ap_go {s : St PV} {dst : Option Nat} {δ : Dl PV} {t : Nat} {v : Ob PV} (h : (s.ap dst δ).go t = some v) :
  look δ.obs t = some v ∨ (t ∉ δ.obs.map (·.1) ∧ s.go t = some v ∧ ∀ d ∈ δ.born, d ∉ obRefs v) := by
 unfold St.ap St.go at h
 simp only [look_append] at h
 split at h
 ·exact .inl h
 ·exact .inr ⟨‹_›, kills_go _ h⟩
theorem put_get {a : Act} {dst : Option Nat} {v : Value} {t : Nat} (hd : ∀ d, dst = some d → d < a.tmps.size) :
  (a.put dst v).tmps[t]? = if dst = some t then some v else a.tmps[t]? := by
 cases dst with
 | none => simp [Act.put]
 | some d =>
  simp only [Act.put, Array.getElem?_setIfInBounds, Option.some.injEq]
  by_cases h : d = t
  ·subst h; simp [hd d rfl]
  ·simp [h]
theorem put_size {a : Act} {dst : Option Nat} {v : Value} : (a.put dst v).tmps.size = a.tmps.size := by
 cases dst <;> simp [Act.put]
theorem put_defers {a : Act} {dst : Option Nat} {v : Value} : (a.put dst v).defers = a.defers := by
 cases dst <;> simp [Act.put]
section
variable {S : Fx} {F0 : Nat → Nat → Prop} {w0 : World} {F : Nat → Nat → Prop} {ρ : Nat → Value} {w : World} {a : Act} {s : St PV}
/-- what holds behind an operation -/
def Post (S : Fx) (F0 : Nat → Nat → Prop) (w0 : World) (a0 : Act) (s : St PV) : Act → World → Prop := fun a w =>
 a.defers = a0.defers ∧ a.tmps.size = a0.tmps.size ∧ ∃ F ρ, R S F0 w0 F ρ a.tmps w s.gt s.go
/-- a value that needs nothing new -/
theorem post_val (h : R S F0 w0 F ρ a.tmps w s.gt s.go) {dst : Option Nat} (hd : ∀ d, dst = some d → d < a.tmps.size) {δ : Dl PV} (ho : δ.obs = []) {v : Value}
  (hv : ∀ sv, δ.dst = some sv → RepS F ρ w v sv) : Post S F0 w0 a (s.ap dst δ) (a.put dst v) w := by
 refine ⟨put_defers, put_size, F, ρ, (h.val (gt' := (s.ap dst δ).gt) (tmps' := (a.put dst v).tmps) fun t sv ht => ?_).sub (fun _ _ h => h) fun o b hb => ?_⟩
 ·rw [put_get hd]
  rcases ap_gt ht with ⟨h1, h2⟩ | ⟨h1, h2, _⟩
  ·subst h1; exact .inr ⟨v, by simp, hv sv h2⟩
  ·exact .inl ⟨h2, by simp [h1]⟩
 ·rcases ap_go hb with h1 | ⟨_, h1, _⟩
  ·rw [ho] at h1; cases h1
  ·exact h1
/-- one object is told anew under its name, at the same handle; its block may have been written -/
theorem post_upd (h : R S F0 w0 F ρ a.tmps w s.gt s.go) {dst : Option Nat} (hd : ∀ d, dst = some d → d < a.tmps.size) {δ : Dl PV} {o : Nat} {b b' : Ob PV} (hold : s.go o = some b) (ho : δ.obs = [(o, some b')])
  (hdst : δ.dst = none) {v : Value} {w' : World} {k0 : Nat} (hk0 : hb (ρ o) = some k0) (hkp : Kp (fun k => k = k0) w w') (hS : ∀ b o, F b o → Same w w' b o)
  (hb' : RepO F ρ w' o b') : Post S F0 w0 a (s.ap dst δ) (a.put dst v) w' := by
 refine ⟨put_defers, put_size, F, ρ, h.step (fun k => k = k0) (fun _ => False) (fun u => u = o) hkp (fun k _ hk => ?_) (fun _ _ h => h) hS (fun _ _ h => .inl h) (fun b o hf => Nat.lt_of_lt_of_le (h.f2 b o hf) hkp.size)
  (fun _ _ => rfl) (fun _ _ h => h) (fun t sv ht => ?_) (fun u c hu => ?_) (fun u c hu _ hne k hk hx => ?_) (fun u c hu hU k hk => ?_) fun u u' c c' hu hu' hU hU' hne => ?_⟩
 ·subst hk; exact h.mine o b hold _ (.inl hk0)
 ·rw [put_get hd]
  rcases ap_gt ht with ⟨h1, h2⟩ | ⟨h1, h2, _⟩
  ·rw [hdst] at h2; cases h2
  ·exact .inl ⟨h2, by simp [h1], fun _ _ h => h⟩
 ·rcases ap_go hu with h1 | ⟨h0, h1, _⟩
  ·rw [ho, look_cons] at h1
   by_cases he : o = u
   ·subst he; simp at h1; subst h1; exact .inr ⟨rfl, hb'⟩
   ·simp [he, look] at h1
  ·rw [ho] at h0
   exact .inl ⟨h1, fun h => h, fun e => h0 (by simp [e]), fun _ _ h => h⟩
 ·exact h.ob.sep u o c b hu hold hne k hk ((HB_hb hk0).2 hx)
 ·subst hU; exact .inr ((HB_hb hk0).1 hk)
 ·exact absurd (hU.trans hU'.symm) hne
/-- a new object under a name; the block is the world's next, or there is none; other objects' blocks are not written -/
theorem post_new {o : Nat} (h : R S F0 w0 F ρ a.tmps w s.gt s.go) {dst : Option Nat} (hd : ∀ d, dst = some d → d < a.tmps.size) (hal : o ∉ S.al) {δ : Dl PV} {b' : Ob PV} (ho : δ.obs = [(o, some b')]) (hborn : δ.born = [o])
  {v hd' : Value} {w' : World} {F' : Nat → Nat → Prop} (hkp : Kp (fun _ => False) w w') (hF : ∀ b o, F b o → F' b o) (hF1 : ∀ b o, F' b o → F b o ∨ w.heap.size ≤ b) (hF2 : ∀ b o, F' b o → b < w'.heap.size)
  (hnew : ∀ k, hb hd' = some k → w.heap.size ≤ k) (hnt : NotTup hd')
  (hb' : RepO F' (fun u => if u = o then hd' else ρ u) w' o b') (hv : ∀ sv, δ.dst = some sv → RepS F' (fun u => if u = o then hd' else ρ u) w' v sv) : Post S F0 w0 a (s.ap dst δ) (a.put dst v) w' := by
 refine ⟨put_defers, put_size, F', fun u => if u = o then hd' else ρ u, h.step (fun _ => False) (fun u => u = o) (fun u => u = o) hkp (fun _ _ h => h.elim) hF (fun b u hf => Same.of_block (hkp.block b (h.f2 b u hf) fun h => h) u)
  (fun b u hf => (hF1 b u hf).imp id .inl) hF2 (fun u hu => by simp [hu]) (fun u hu e => hal (e ▸ hu)) (fun t sv ht => ?_) (fun u c hu => ?_) (fun _ _ _ _ _ _ _ h => h) (fun u c hu hU k hk => ?_) fun u u' c c' hu hu' hU hU' hne => ?_⟩
 ·rw [put_get hd]
  rcases ap_gt ht with ⟨h1, h2⟩ | ⟨h1, h2, h3⟩
  ·subst h1; exact .inr ⟨v, by simp, hv sv h2⟩
  ·exact .inl ⟨h2, by simp [h1], fun u hu e => h3 o (by simp [hborn]) (e ▸ hu)⟩
 ·rcases ap_go hu with h1 | ⟨h0, h1, h3⟩
  ·rw [ho, look_cons] at h1
   by_cases he : o = u
   ·subst he; simp at h1; subst h1; exact .inr ⟨rfl, hb'⟩
   ·simp [he, look] at h1
  ·rw [ho] at h0
   have hne : u ≠ o := fun e => h0 (by simp [e])
   exact .inl ⟨h1, hne, hne, fun x hx e => h3 o (by simp [hborn]) (e ▸ hx)⟩
 ·subst hU; simp at hk; exact .inl (hnew k ((HB_iff hnt).1 hk))
 ·exact absurd (hU.trans hU'.symm) hne
end
end Go.Lf
/- Each operation does what its reading says: plain values, variables. -/
namespace Go.Lf
variable [Mk] [Gl]
open Go.RowKit
/-- the whole program; in a round of a range over a function or not -/
def Fd (ro : Option Nat) : Fence := { Fence.wide with round := ro }
/-- an operation's law, wherever it stands -/
def _root_.Go.Oper.wpr (ro : Option Nat) (P : Program) (o : Oper) (a : Act) (w : World) (next : Act → World → Prop) (Q : Exit → Act → World → Prop) : Prop := o.wpIn (Fd ro) 0 P a w next Q
theorem wpr_mono {ro : Option Nat} {P : Program} {o : Oper} {a : Act} {w : World} {K K' : Act → World → Prop} {Q : Exit → Act → World → Prop} (h : ∀ a w, K a w → K' a w) (hh : o.wpr ro P a w K Q) : o.wpr ro P a w K' Q := Oper.wpIn_mono h hh
theorem not_defer {P : Program} {o : Oper} {ρ : Operand → Value} {w w' : World} {n : Next} (h : (execOp ρ o).run P w = .ok n w') (hn : ∀ d, n ≠ .defer d) : ∀ c, o.op ≠ .defer c := by
 intro c hc
 simp only [execOp, hc] at h
 cases hr : (resolve ρ c o.type).run P w with
 | ok d w1 =>
  simp [hr] at h
  exact hn d h.1.symm
 | halt x w1 => simp [hr] at h
/-- an operation that comes to something: in a round as anywhere -/
theorem wpr_upon {ro : Option Nat} {P : Program} {o : Oper} {a : Act} {w w' : World} {K : Act → World → Prop} {Q : Exit → Act → World → Prop} {n : Next} (h : (execOp a.eval o).run P w = .ok n w') (hn : ∀ d, n ≠ .defer d)
  (hk : o.uponIn (Fd ro) 0 P a K Q (.ok n w')) : o.wpr ro P a w K Q :=
 ⟨fun _ _ => trivial, by rw [Oper.semAt_eq _ _ _ (not_defer h hn), h]; exact hk⟩
theorem callsIn_fd {ro : Option Nat} {P : Program} {n : Nat} {f : FuncId} {args : Array Value} {w : World} {R : Ending → World → Prop} (h : Calls P f args w R) : CallsIn (Fd ro) n P f args w R := callsIn_wide.2 h
theorem roundIn_fd {ro : Option Nat} {P : Program} {n l : Nat} {f : FuncId} {tmps : Array Value} {assign body : Code} {w : World} {R : Ending → World → Prop} (h : RoundIn Fence.wide n P l f tmps assign body w R) : RoundIn (Fd ro) n P l f tmps assign body w R := h
/-- what an operation's reading comes to -/
def Cmd.gives (P : Program) : Cmd PV → Dl PV → Prop
 | .pure d, δ => δ = d
 | .prim p xs d, δ => ∃ y, p.ev xs = some y ∧ δ = d y
 | .call f xs d, δ => ∃ r, Ok P f xs r ∧ δ = d r
 | .callg f xs d, δ => ∃ r, Ok P f xs r ∧ r.ground = true ∧ δ = d r
 | .callv x xs d, δ => ∃ r, OkV P x xs r ∧ δ = d r
 | .calls f sg xs d, δ => ∃ ys, ys.length = sg.nout ∧ OkS P f sg xs ys ∧ δ = d ys
 | .callvs x sg xs d, δ => ∃ ys, ys.length = sg.nout ∧ OkVS P x sg xs ys ∧ δ = d ys
 | .yld xs s d, δ => ∃ b s', Gl.x.step s xs = some (b, s') ∧ δ = d (.bool b) s'
 | .callx f xs s d, δ => ∃ r s', OkX P f xs s r s' ∧ δ = d r s'
 | .len x, δ => ∃ y, Prim.len.ev [x] = some y ∧ δ = putE y
 | .nilq _ _, _ => False
 | .fail, _ => False
def Sub (c s : St PV) : Prop := (∀ t v, c.gt t = some v → s.gt t = some v) ∧ ∀ o b, c.go o = some b → s.go o = some b
theorem Sub.refl (s : St PV) : Sub s s := ⟨fun _ _ h => h, fun _ _ h => h⟩
section
variable {ro : Option Nat} {P : Program} {H : Hint} {S : Fx} {F0 : Nat → Nat → Prop} {w0 : World} {F : Nat → Nat → Prop} {ρ : Nat → Value} {w : World} {a : Act} {s c : St PV}
 {Q : Exit → Act → World → Prop} {o : Oper} {δ : Dl PV} {cmd : Cmd PV}
theorem wp_value {K : Act → World → Prop} {v : Value} {w' : World} (h : (execOp a.eval o).run P w = .ok (.value v) w') (hk : K (a.put o.dst v) w') : o.wpr ro P a w K Q := wpr_upon h (fun _ e => by cases e) hk
theorem wp_skip' {K : Act → World → Prop} {w' : World} (h : (execOp a.eval o).run P w = .ok .skip w') (hk : K (a.put o.dst undef) w') : o.wpr ro P a w K Q := wpr_upon h (fun _ e => by cases e) hk
/-- the premises of every operation -/
structure In (P : Program) (S : Fx) (F0 : Nat → Nat → Prop) (w0 : World) (F : Nat → Nat → Prop) (ρ : Nat → Value) (w : World) (a : Act) (s c : St PV) (o : Oper) : Prop where
 gl : GlOk F0 w0
 r : R S F0 w0 F ρ a.tmps w s.gt s.go
 sub : Sub c s
 dst : ∀ d, o.dst = some d → d < a.tmps.size
 fr : o.dst.getD 0 ∉ S.al
 al : c.al = S.al
theorem In.rc (h : In P S F0 w0 F ρ w a s c o) : R S F0 w0 F ρ a.tmps w c.gt c.go := h.r.sub h.sub.1 h.sub.2
theorem In.mkn (h : In P S F0 w0 F ρ w a s c o) : Mk.n ≤ w.heap.size := Nat.le_trans h.gl.1 h.r.kp.size
theorem In.opv (h : In P S F0 w0 F ρ w a s c o) {x : Operand} {sv : SV PV} (hx : Lf.opv pvAlg c x = some sv) : RepS F ρ w (a.eval x) sv := opv_rep (h.gl.mono h.r.kp.size h.r.f0 h.r.f3) h.rc.tm hx
theorem In.asE (h : In P S F0 w0 F ρ w a s c o) {x : Operand} {y : PV} (hx : ((Lf.opv pvAlg c x).bind (Lf.asE pvAlg c)) = some y) : Rep F w (a.eval x) y := by
 simp only [Option.bind_eq_some_iff] at hx
 obtain ⟨sv, h1, h2⟩ := hx
 exact asE_rep h.rc.ob (h.opv h1) h2
theorem repS_put {v : Value} {x : SV PV} (h : RepS F ρ w v x) : ∀ sv, (put x : Dl PV).dst = some sv → RepS F ρ w v sv := by
 intro sv hs; simp [put] at hs; subst hs; exact h
theorem repS_putE {v : Value} {x : PV} (h : Rep F w v x) : ∀ sv, (putE x : Dl PV).dst = some sv → RepS F ρ w v sv := by
 intro sv hs; simp [putE] at hs; subst hs; exact h
/-- an operation that yields a value and leaves the world -/
theorem sound_val (h : In P S F0 w0 F ρ w a s c o) {v : Value} (hr : (execOp a.eval o).run P w = .ok (.value v) w) (ho : δ.obs = []) (hv : ∀ sv, δ.dst = some sv → RepS F ρ w v sv) :
  o.wpr ro P a w (Post S F0 w0 a (s.ap o.dst δ)) Q := wp_value hr (post_val h.r h.dst ho hv)
theorem sound_move (h : In P S F0 w0 F ρ w a s c o) {x : Operand} (hop : o.op = .move x ∨ o.op = .assign x) {v : SV PV} (hx : opv pvAlg c x = some v) : o.wpr ro P a w (Post S F0 w0 a (s.ap o.dst (put v))) Q := by
 refine sound_val h (v := a.eval x) ?_ rfl (repS_put (h.opv hx))
 rcases hop with hop | hop <;> simp [execOp, hop]
theorem sound_pick (h : In P S F0 w0 F ρ w a s c o) {x y z : Operand} (hop : o.op = .pick x y z) {b : Bool} (hb : opv pvAlg c x = some (.at (.kb b))) {v : SV PV} (hx : opv pvAlg c (if b then y else z) = some v) :
  o.wpr ro P a w (Post S F0 w0 a (s.ap o.dst (put v))) Q := by
 refine sound_val h (v := a.eval (if b then y else z)) ?_ rfl (repS_put (h.opv hx))
 have : a.eval x = .bool b := h.opv hb
 cases b <;> simp [execOp, hop, this, asBool]
/-! ### new variables -/
theorem alloc_old (w : World) (o : Obj) (i : Nat) (h : i < w.heap.size) : (w.alloc o).heap[i]? = w.heap[i]? := by
 first | exact heap_alloc_old w o i h | exact heap_alloc_old w o h
theorem heapNew (w : World) (ob : Obj) : Kp (fun _ => False) w (w.alloc ob) :=
 ⟨rfl, rfl, rfl, by simp, fun k hk _ => alloc_old w ob k hk⟩
theorem zA_rep {v : Value} {x : PV} (h : cstV v = some x) : RepA F ρ w v (zA pvAlg x) ∧ v.oneCell' = true := by
 have hr := cstV_rep (F := F) (w := w) h
 refine ⟨?_, cstV_isCell h⟩
 unfold zA
 split
 ·cases hr; exact rfl
 ·cases hr with
  | sl0 p =>
   unfold cstV at h
   split at h <;> simp_all [RepA]
  | sl b o cap n xs g hcap =>
   unfold cstV at h
   split at h <;> simp_all
 ·exact hr
theorem zeroCells_spec {t : Nat} {l : List PV} (h : zeroCells P t = some l) : ∃ i z, P.info? t = some i ∧ i.zero = some z ∧ z.cells.size = l.length ∧
  ∀ (i : Nat) (u : Value) (x : PV), z.cells[i]? = some u → l[i]? = some x → cstV u = some x := by
 simp only [zeroCells, Option.bind_eq_some_iff] at h
 obtain ⟨i, hi, z, hz, hm⟩ := h
 obtain ⟨h1, h2⟩ := mapM_some hm
 refine ⟨i, z, hi, hz, by simpa using h1.symm, fun i u x hu hx => h2 i u x ?_ hx⟩
 rw [Array.getElem?_toList]; exact hu
/-- behind an allocation of a block of cells: the object 'o' -/
theorem sound_newCells (h : In P S F0 w0 F ρ w a s c o) {d n ty : Nat} (hdf : d ∉ S.al) {fz ag : Bool} {cs : Cs PV} {cells : Array Value}
  (hr : (execOp a.eval o).run P w = .ok (.value (.pointer (some ⟨w.heap.size, 0, none⟩))) (w.alloc (.cells cells ty))) (hn : cells.size = n)
  (hcs : ∀ (F' : Nat → Nat → Prop) (ρ' : Nat → Value) (w' : World), (∀ b o, F b o → F' b o) → (∀ b o, F b o → Same w w' b o) → (∀ u, u ≠ d → ρ' u = ρ u) → RepCs F' ρ' w' fz n ag cells cs)
  (hδ : δ = { dst := some (.at (.ptr d 0)), obs := [(d, some (.cells fz n ag cs))], born := [d] }) : o.wpr ro P a w (Post S F0 w0 a (s.ap o.dst δ)) Q := by
 subst hδ
 refine wp_value hr (post_new (o := d) (b' := .cells fz n ag cs) (F' := fun b j => F b j ∨ (b = w.heap.size ∧ fz = true ∧ j < n)) (hd' := .pointer (some ⟨w.heap.size, 0, none⟩)) h.r h.dst hdf rfl rfl (heapNew w _) (fun _ _ h => .inl h)
  (fun b u hf => hf.imp id fun h => by omega) (fun b u hf => ?_) (fun k hk => ?_) trivial ⟨w.heap.size, cells, ty, ?_, ?_, hn, ?_, fun j => ?_⟩ fun sv hs => ?_)
 ·rcases hf with hf | hf
  ·have := h.r.f2 b u hf; simp; omega
  ·simp; omega
 ·simp [hb] at hk; omega
 ·simp
 ·exact heap_alloc_new w _
 ·refine hcs _ _ _ (fun _ _ h => .inl h) (fun b u hf => Same.of_block (alloc_old w _ b (h.r.f2 b u hf)) u) fun u hu => by simp [hu]
 ·constructor
  ·rintro (hf | hf)
   ·exact absurd (h.r.f2 _ _ hf) (by omega)
   ·exact hf.2
  ·exact fun hf => .inr ⟨rfl, hf⟩
 ·simp at hs; subst hs
  exact ⟨w.heap.size, by simp, rfl⟩
theorem sound_alloc (h : In P S F0 w0 F ρ w a s c o) {t n : Nat} (hop : o.op = .alloc t) (hn : tsz P t = some n) {z : List PV} (hz : zeroCells P t = some z) (hl : z.length = n) :
  o.wpr ro P a w (Post S F0 w0 a (s.ap o.dst { dst := some (.at (.ptr (o.dst.getD 0) 0)), obs := [(o.dst.getD 0, some (.cells false n (tag P t) (.pts (z.map (zA pvAlg)))))], born := [o.dst.getD 0] })) Q := by
 obtain ⟨i, zv, hi, hzv, hsz, hc⟩ := zeroCells_spec hz
 refine sound_newCells h h.fr (d := o.dst.getD 0) (n := n) (ty := t) (fz := false) (ag := tag P t) (cs := .pts (z.map (zA pvAlg))) (cells := zv.cells) ?_ (by omega) (fun F' ρ' w' _ _ _ => ⟨rfl, by simp [hl], fun j u x hu hx => ?_⟩) rfl
 ·simp [execOp, hop, Instr.alloc, zeroValue, typeInfo, hi, hzv, newVar, newRow]
 ·simp only [List.getElem?_map, Option.map_eq_some_iff] at hx
  obtain ⟨y, hy, rfl⟩ := hx
  exact zA_rep (hc j u y hu hy)
theorem RepCs.mono {F F' : Nat → Nat → Prop} {ρ ρ' : Nat → Value} {w w' : World} {fz ag : Bool} {n : Nat} {cells : Array Value} {cs : Cs PV} (h : RepCs F ρ w fz n ag cells cs)
  (hF : ∀ b o, F b o → F' b o) (hw : ∀ b o, F b o → Same w w' b o) (hr : ∀ l, cs = .pts l → ∀ a ∈ l, ∀ o ∈ aRefs a, ρ' o = ρ o) : RepCs F' ρ' w' fz n ag cells cs := by
 cases cs with
 | wh x => exact ⟨h.1, h.2.1, fun i u y h1 h2 => (h.2.2 i u y h1 h2).mono hF hw⟩
 | pts l => exact ⟨h.1, h.2.1, fun i u a h1 h2 => ⟨(h.2.2 i u a h1 h2).1.mono hF hw (hr l rfl a (List.mem_of_getElem? h2)), (h.2.2 i u a h1 h2).2⟩⟩
/-- the value of a box: its cells -/
theorem sound_box (h : In P S F0 w0 F ρ w a s c o) {t n : Nat} {x : Operand} (hop : o.op = .box t x) (hn : tsz P t = some n) {v : SV PV} (hx : opv pvAlg c x = some v) (hv : (a.eval x).cells.size = n)
  {fz : Bool} {cs : Cs PV} (hcs : RepCs F ρ w fz n (tag P t) (a.eval x).cells cs) (hns : ∀ l, cs = .pts l → l.any (aRef (o.dst.getD 0)) = false) :
  o.wpr ro P a w (Post S F0 w0 a (s.ap o.dst { dst := some (.at (.ptr (o.dst.getD 0) 0)), obs := [(o.dst.getD 0, some (.cells fz n (tag P t) cs))], born := [o.dst.getD 0] })) Q := by
 refine sound_newCells h h.fr (d := o.dst.getD 0) (n := n) (ty := t) (fz := fz) (ag := tag P t) (cs := cs) (cells := (a.eval x).cells) ?_ hv (fun F' ρ' w' h1 h2 h3 => ?_) rfl
 ·simp [execOp, hop, Instr.box, newVar, newRow]
 ·refine hcs.mono h1 h2 fun l hl y hy u hu => h3 u fun e => ?_
  have := hns l hl
  simp only [List.any_eq_false] at this
  exact aRef_mem (by simpa using this y hy) (e ▸ hu)
end
end Go.Lf
/- Each operation does what its reading says: reads, arithmetic, parts. -/
namespace Go.Lf
variable [Mk] [Gl]
open Go.RowKit
section
variable {ro : Option Nat} {P : Program} {H : Hint} {S : Fx} {F0 : Nat → Nat → Prop} {w0 : World} {F : Nat → Nat → Prop} {ρ : Nat → Value} {w : World} {a : Act} {s c : St PV}
 {Q : Exit → Act → World → Prop} {o : Oper} {δ : Dl PV} {cmd : Cmd PV}
theorem exec_load {t : Nat} {x : Operand} (hop : o.op = .load t x) : (execOp a.eval o).run P w = ((Instr.loadAt t (a.eval x)).run P w).andThen fun v w => .ok (.value v) w := by
 simp [execOp, hop]
/-- a load from a place -/
theorem sound_loadAt (h : In P S F0 w0 F ρ w a s c o) {t : Nat} {x : Operand} (hop : o.op = .load t x) {m : Nat} {mag : Bool} (hm : tsz P t = some m) (hg : tagS P t = some mag)
  {b base n off : Nat} {fz ag : Bool} {cells : Array Value} {cs : Cs PV} (hx : a.eval x = .pointer (some ⟨b, base + off, none⟩)) (hn : cells.size = n)
  (hc : ∀ j, j < n → w.cell? ⟨b, base + j, none⟩ = cells[j]?) (hcs : RepCs F ρ w fz n ag cells cs) {v : SV PV} (hl : loadCs pvAlg n ag cs m mag off = some v) :
  o.wpr ro P a w (Post S F0 w0 a (s.ap o.dst (put v))) Q := by
 obtain ⟨h1, h2⟩ := loadCs_rep hn hcs hl
 have hle : off + m ≤ n := by
  cases mag with
  | true => exact (h1 rfl).1
  | false =>
   obtain ⟨e, u, hu, _⟩ := h2 rfl
   have := (Array.getElem?_eq_some_iff.1 hu).1
   omega
 have hrun := run_load_place (P := P) (w := w) (t := t) hc hn hm hg hle (fun e => (h2 e).1)
 refine sound_val h (v := if mag then .agg (cells.extract off (off + m)) else (cells[off]?).getD undef) ?_ rfl (repS_put ?_)
 ·rw [exec_load hop, hx, hrun]; rfl
 ·cases mag with
  | true => exact (h1 rfl).2
  | false =>
   obtain ⟨_, u, hu, hr⟩ := h2 rfl
   simp only [Bool.false_eq_true, if_false, hu, Option.getD_some]
   exact hr
theorem RepCs.wh_of_box {x : PV} {n : Nat} {ag : Bool} (hk : x.okc n ag = true) {b o : Nat} (h : Rep F w (.pointer (some ⟨b, o, none⟩)) (.box x)) :
  ∃ cells : Array Value, cells.size = n ∧ (∀ j, j < n → w.cell? ⟨b, o + j, none⟩ = cells[j]?) ∧ RepCs F ρ w true n ag cells (.wh x) := by
 cases h with
 | box b o x g hc hg hr =>
  have hl := (okc_cells hk).1
  refine ⟨((List.range n).map g).toArray, by simp, fun j hj => ?_, hk, hc, fun i u y hu hy => ?_⟩
  ·have hxj : x.cells[j]? = some (x.cells[j]'(by omega)) := by simp [hl, hj]
   rw [(hg j _ hxj).2]
   simp [hj]
  ·rw [List.getElem?_toArray] at hu
   obtain ⟨hi, rfl⟩ := range_map_get _ _ _ _ hu
   exact hr i y hy
theorem sound_dlLoad (h : In P S F0 w0 F ρ w a s c o) {t : Nat} {x : Operand} (hop : o.op = .load t x) {p : A PV} (hv : opv pvAlg c x = some (.at p)) (hd : dlLoad pvAlg P c t p = some cmd)
  (hg : cmd.gives P δ) : o.wpr ro P a w (Post S F0 w0 a (s.ap o.dst δ)) Q := by
 have hp : RepA F ρ w (a.eval x) p := h.opv hv
 simp only [dlLoad, Option.bind_eq_bind, Option.bind_eq_some_iff] at hd
 obtain ⟨m, hm, mag, hmag, hd⟩ := hd
 cases p with
 | ptr u off =>
  simp only at hd
  split at hd
  ·rename_i fz n ag cs hgo
   simp only [Option.bind_eq_some_iff] at hd
   obtain ⟨v, hl, hd⟩ := hd
   simp at hd; subst hd; simp only [Cmd.gives] at hg; subst hg
   obtain ⟨b, h1, h2⟩ := hp
   obtain ⟨b', cells, ty, g1, g2, g3, g4, g5⟩ := h.rc.ob.rep u _ hgo
   rw [h1] at g1; simp at g1; subst g1
   exact sound_loadAt h hop hm hmag (base := 0) (by rw [Nat.zero_add]; exact h2) g3 (fun j _ => by rw [Nat.zero_add]; exact cell_of_row w b j cells ty (0, 0) g2) g4 hl
  ·cases hd
 | bptr y n ag off =>
  simp only [Option.bind_eq_some_iff] at hd
  obtain ⟨v, hl, hd⟩ := hd
  simp at hd; subst hd; simp only [Cmd.gives] at hg; subst hg
  obtain ⟨hk, b, base, h1, h2⟩ := hp
  obtain ⟨cells, g1, g2, g3⟩ := RepCs.wh_of_box (ρ := ρ) hk h2
  exact sound_loadAt h hop hm hmag h1 g1 g2 g3 hl
 | eptr u i sz off =>
  simp only at hd
  split at hd
  ·rename_i fz ty sz' ag y hgo
   split at hd
   ·rename_i hcond
    simp only [Bool.and_eq_true, beq_iff_eq] at hcond
    obtain ⟨⟨⟨rfl, rfl⟩, rfl⟩, rfl⟩ := hcond
    simp at hd; subst hd
    obtain ⟨z, hz, rfl⟩ := hg
    obtain ⟨y', l, k, j, he, hyl', hj0, hlj, hok⟩ := ev_idx hz
    simp at he; obtain ⟨rfl, rfl⟩ := he
    obtain ⟨g, len, cap, k', j', h1, h2, h3, h4, h5⟩ := hp
    simp at h2; obtain ⟨rfl, rfl⟩ := h2
    obtain ⟨es, he, hsz, hall, hcase⟩ := h.rc.ob.rep u _ hgo
    subst he; obtain rfl : l = es := (PV.sl.inj hyl').symm
    rcases hcase with ⟨h6, _⟩ | ⟨g', cap', cur, h6, h7, h8, h9, h10, h11, _⟩
    ·rw [h1] at h6; simp at h6
    ·rw [h1] at h6; simp at h6; obtain ⟨rfl, rfl, rfl⟩ := h6
     have hl := okc_cells hok
     have hjl : j.toNat < l.length := by
      rcases Nat.lt_or_ge j.toNat l.length with h | h
      ·exact h
      ·rw [List.getElem?_eq_none h] at hlj; cases hlj
     have hle : j.toNat * m + m ≤ cap * m := by rw [← Nat.succ_mul]; exact Nat.mul_le_mul_right _ (by omega)
     refine sound_loadAt (v := .at (.dat z)) h hop hm hmag (b := g) (base := j.toNat * m) (off := 0) (n := m) (fz := false) (ag := ag) (cells := cur.extract (j.toNat * m) (j.toNat * m + m)) (cs := .wh z)
      (by rw [h5]) (by simp; omega) (fun i hi => ?_) ⟨hok, okc_all hok, fun i u y hu hy => ?_⟩ ?_
     ·rw [cell_of_row w g _ cur ty (0, 0) h7]
      simp only [Array.getElem?_extract]
      rw [if_pos (by omega)]
     ·obtain ⟨u', hu', hr⟩ := h11 j.toNat z i y hlj hy
      simp only [Array.getElem?_extract] at hu
      split at hu
      ·rw [hu'] at hu; simp at hu; subst hu; exact hr
      ·cases hu
     ·simp only [loadCs]
      cases ag with
      | true => simp
      | false =>
       have h1 : m = 1 := by rw [← hl.1, cells_of_one hl.2]; rfl
       simp [h1]
   ·cases hd
  ·cases hd
 | aptr u i =>
  simp only at hd
  split at hd
  ·rename_i fz n cs hgo
   split at hd
   ·rename_i hcond
    simp only [Bool.and_eq_true, beq_iff_eq] at hcond
    obtain ⟨rfl, rfl⟩ := hcond
    simp only [Option.map_eq_some_iff] at hd
    obtain ⟨q, hq, rfl⟩ := hd
    obtain ⟨z, hz, rfl⟩ := hg
    obtain ⟨l, k, j, he, hj0, hj1, hlen, hok, hcells⟩ := ev_aidx hz
    simp at he; obtain ⟨rfl, rfl⟩ := he
    obtain ⟨b, k', j', h1, h2, h3, h4⟩ := hp
    simp at h2; obtain ⟨rfl, rfl⟩ := h2
    obtain ⟨b', cells, ty, g1, g2, g3, g4, g5⟩ := h.rc.ob.rep u _ hgo
    rw [h1] at g1; simp at g1; subst g1
    have hw := wholeCs_rep h.rc.ob g3 g4 hq
    have hzc := cells_of_one (okc_cells hok).2
    have hlz : l[j.toNat]? = some z := by have := hcells 0 z (by rw [hzc]; rfl); simpa using this
    refine sound_loadAt (v := .at (.dat z)) h hop hm hmag (base := 0) (off := j.toNat) (by rw [Nat.zero_add]; exact h4) g3 (fun i _ => by rw [Nat.zero_add]; exact cell_of_row w b i cells ty (0, 0) g2) hw ?_
    have hjn : j.toNat < n := by omega
    simp [loadCs, hjn, pvAlg, PV.cells, List.getD, hlz]
   ·cases hd
  ·cases hd
 | dat y =>
  simp at hd; subst hd
  obtain ⟨z, hz, rfl⟩ := hg
  obtain ⟨he, hok⟩ := ev_unbox hz
  simp at he; subst he
  have hr : Rep F w (a.eval x) (.box z) := hp
  have : ∃ b base, a.eval x = .pointer (some ⟨b, base, none⟩) := by
   generalize a.eval x = v at hr
   cases hr with
   | box b o x g => exact ⟨b, o, rfl⟩
  obtain ⟨b, base, hb⟩ := this
  rw [hb] at hr
  obtain ⟨cells, g1, g2, g3⟩ := RepCs.wh_of_box (ρ := ρ) hok hr
  refine sound_loadAt (v := .at (.dat z)) h hop hm hmag (off := 0) (by rw [hb]; rfl) g1 g2 g3 ?_
  have hl := okc_cells hok
  simp only [loadCs]
  cases mag with
  | true => simp
  | false =>
   have h1 : m = 1 := by rw [← hl.1, cells_of_one hl.2]; rfl
   simp [h1]
 | _ => simp at hd
/-! ### arithmetic and comparison -/
theorem exec_bin {op : BinOp} {t ty : Nat} {x y : Operand} (hop : o.op = .binOp op t x y ty) {v : Value} (hgd : (eqGuard op t x y (a.eval x) (a.eval y)).run P w = .ok () w)
  (hb : (binOp op t (a.eval x) (a.eval y)).run P w = .ok v w) : (execOp a.eval o).run P w = .ok (.value v) w := by
 simp [execOp, hop, hgd, hb]
theorem eqGuard_plain {op : BinOp} {t : Nat} {x y : Operand} {u v : Value} (h : (∀ cs, u ≠ .agg cs) ∧ u ≠ .nilIface) : (eqGuard op t x y u v).run P w = .ok () w := by
 unfold eqGuard
 cases op <;> simp
 all_goals
  cases u <;> cases v <;> simp_all
theorem binOp_int {op : BinOp} {t : Nat} {k k2 : IntKind} {x y r : Int} (hk : k2 = k ∨ op = .shl ∨ op = .shr) (h : arithV op k x y = some r) :
    (binOp op t (.int k x) (.int k2 y)).run P w = .ok (.int k r) w := by
  unfold arithV at h
  split at h <;> try (simp at h; done)
  all_goals first
    | (simp at h hk; subst hk; subst h; simp [binOp, Op.intArith]; done)
    | (split at h
       · simp at h
       · rename_i hy
         simp at h hk; subst hk; subst h; simp [binOp, Op.intDiv, hy])
    | (simp at h hk; subst hk; subst h; simp [binOp, Op.intBits]; done)
    | (split at h
       · simp at h
       · rename_i hy
         simp at h; subst h; simp [binOp, Op.shift, hy])
theorem binOp_cmp {op : BinOp} {t : Nat} {k : IntKind} {x y : Int} {r : Bool} (h : cmpV op x y = some r) : (binOp op t (.int k x) (.int k y)).run P w = .ok (.bool r) w := by
 have e : (x == y) = decide (x = y) := by by_cases hxy : x = y <;> simp [hxy]
 unfold cmpV at h
 split at h <;> simp only [Option.some.injEq, reduceCtorEq] at h <;> subst h <;> simp [binOp, Op.intCmp, bne, e]
theorem bytes_beq (x y : ByteArray) : (x.toList == y.toList) = decide (x = y) := by
 rw [Bool.eq_iff_iff]
 simp only [beq_iff_eq, decide_eq_true_eq]
 constructor
 ·intro h
  rw [ByteArray.toList_eq, ByteArray.toList_eq] at h
  exact ByteArray.ext (Array.toList_inj.1 h)
 ·rintro rfl; rfl
theorem binOp_scmp {op : BinOp} {t : Nat} {x y : ByteArray} {r : Bool} (h : scmpV op x y = some r) : (binOp op t (.string x) (.string y)).run P w = .ok (.bool r) w := by
 unfold scmpV at h
 split at h <;> simp only [Option.some.injEq, reduceCtorEq] at h <;> subst h <;> simp [binOp, Op.stringOp, bytes_beq]
theorem binOp_bcmp {op : BinOp} {t : Nat} (ht : P.underlying t = some .bool) {x y r : Bool} (h : bcmpV op x y = some r) : (binOp op t (.bool x) (.bool y)).run P w = .ok (.bool r) w := by
 unfold bcmpV at h
 split at h <;> simp only [Option.some.injEq, reduceCtorEq] at h <;> subst h
 ·exact run_eql_bool w t x y ht
 ·rw [run_neq_bool w t x y ht]
theorem binOp_cat {t : Nat} {x y : ByteArray} (h : x.size + y.size ≤ maxLen) : (binOp .add t (.string x) (.string y)).run P w = .ok (.string (x ++ y)) w := by
 have : ¬ (((x.size + y.size : Nat) : Int) > IntKind.i64.max) := by
  have e : IntKind.i64.max = 9223372036854775807 := by decide
  rw [e]; unfold maxLen at h; omega
 simp only [binOp, Op.stringOp]
 rw [Sem.run_ite, if_neg this]
 simp
end
end Go.Lf
