/- The free names (1): arguments of bounded number; what is free. -/
import Derived.Test.YtjekkidhbnkiaaaDoorWk61
set_option linter.all false
namespace Go.Proofs.YtjekkidhbnkiaaaDoor.Tx
open Go.Lf Go.Lf.S Go.Lf.Duo
set_option maxRecDepth 100000

/-- at most so many arguments at each node -/
inductive PA (b : Nat) : Pr → Prop
  | mk (p : Pr) (h : p.args.length ≤ b) (hk : ∀ k ∈ p.kids, PA b k) : PA b p
theorem PA.weak {a b : Nat} (hab : a ≤ b) : ∀ {p : Pr}, PA a p → PA b p := by
  intro p
  induction p using Pr.ind with
  | _ p ih =>
  intro h
  cases h with
  | mk _ h hk => exact .mk p (Nat.le_trans h hab) fun k hkm => ih k hkm (hk k hkm)
theorem PA.weak' {a b : Nat} {p : Pr} (h : PA a p) (hab : a ≤ b) : PA b p := PA.weak hab h
theorem mem_le_sum : ∀ {l : List Nat} {x : Nat}, x ∈ l → x ≤ l.sum
  | [], _, h => by cases h
  | y :: l, x, h => by
    rw [List.sum_cons]
    rcases List.mem_cons.1 h with rfl | h
    · omega
    · have := mem_le_sum h; omega
theorem len_le_sum : ∀ {l : List Nat}, (∀ x ∈ l, 1 ≤ x) → l.length ≤ l.sum
  | [], _ => by simp
  | y :: l, h => by
    rw [List.sum_cons, List.length_cons]
    have := len_le_sum fun x hx => h x (List.mem_cons_of_mem _ hx)
    have := h y List.mem_cons_self
    omega
theorem hasT_pos {Q : Program} {t : Nat} {x : PV} {m : Nat} (h : HasT Q t x m) : 1 ≤ m := by
  cases h <;> omega
theorem hasT_lenm {Q : Program} {t : Nat} {l : List PV} {m : Nat} (h : HasT Q t (.sl l) m) : l.length ≤ m := by
  cases h with
  | sl _ e _ ms _ ht hl hms h hm =>
    have := len_le_sum (l := ms) fun x hx => by
      obtain ⟨i, hi, rfl⟩ := List.getElem_of_mem hx
      exact hasT_pos (h i l[i] ms[i] (List.getElem?_eq_getElem (by omega)) (List.getElem?_eq_getElem hi))
    omega

/-- a process that comes in, with the lengths of its arguments -/
theorem pr_ofA {Q : Program} {tP tI tS tLS tV tLV tT tLP tN : Nat} {fs gs : Array Field} (hP : Q.underlying tP = some (.struct fs)) (hf : fs.toList.map (·.type) = [tI, tS, tS, tLS, tLV, tT, tLP]) (hI : Q.underlying tI = some (.int .i64)) (hS : Q.underlying tS = some .string)
    (hLS : Q.underlying tLS = some (.slice tS)) (hLV : Q.underlying tLV = some (.slice tV)) (hV : Q.underlying tV = some (.struct gs)) (hg : gs.toList.map (·.type) = [tI, tS, tN]) (hN : Q.underlying tN = some (.int .i64)) (hLP : Q.underlying tLP = some (.slice tP))
    (hT : ∀ x m, HasT Q tT x m → ∃ ty : Ty, x = ty.enc ∧ Lim ty) {t : Nat} {x : PV} {m : Nat} (h : HasT Q t x m) :
    (t = tP → ∃ p : Pr, x = p.enc ∧ PLim p ∧ PA m p) ∧ (t = tLP → ∃ l : List Pr, x = .sl (l.map Pr.enc) ∧ l.length ≤ maxLen ∧ ∀ p ∈ l, PLim p ∧ PA m p) := by
  induction h with
  | int t k n m ht => exact ⟨(fun e => by rw [e, hP] at ht; cases ht), fun e => by rw [e, hLP] at ht; cases ht⟩
  | bool t b m ht => exact ⟨(fun e => by rw [e, hP] at ht; cases ht), fun e => by rw [e, hLP] at ht; cases ht⟩
  | str t s m ht => exact ⟨(fun e => by rw [e, hP] at ht; cases ht), fun e => by rw [e, hLP] at ht; cases ht⟩
  | sl t e l ms m ht hl hms hh hm ih =>
    refine ⟨(fun e => by rw [e, hP] at ht; cases ht), fun et => ?_⟩
    subst et
    rw [hLP] at ht; cases ht
    have key : ∀ l : List PV, (∀ y ∈ l, ∃ p : Pr, y = p.enc ∧ PLim p ∧ PA m p) → ∃ ls : List Pr, l = ls.map Pr.enc ∧ ∀ p ∈ ls, PLim p ∧ PA m p := by
      intro l
      induction l with
      | nil => exact fun _ => ⟨[], rfl, fun _ h => by cases h⟩
      | cons y l ih =>
        intro hy
        obtain ⟨s, rfl, hs⟩ := hy _ List.mem_cons_self
        obtain ⟨ls, rfl, hls⟩ := ih fun y h => hy y (List.mem_cons_of_mem _ h)
        refine ⟨s :: ls, rfl, fun s' h' => ?_⟩
        rcases List.mem_cons.1 h' with e | e
        · rw [e]; exact hs
        · exact hls s' e
    obtain ⟨ls, rfl, hls⟩ := key l fun y hy => by
      obtain ⟨i, hi, rfl⟩ := List.getElem_of_mem hy
      obtain ⟨p, e1, e2, e3⟩ := (ih i l[i] (ms[i]'(by omega)) (List.getElem?_eq_getElem hi) (List.getElem?_eq_getElem (by omega))).1 rfl
      have := mem_le_sum (l := ms) (List.getElem_mem (by omega : i < ms.length))
      exact ⟨p, e1, e2, e3.weak (by omega)⟩
    exact ⟨ls, rfl, by simpa using hl, hls⟩
  | agg t fs' xs ms m ht hl hms hh hm ih =>
    refine ⟨fun et => ?_, fun e => by rw [e, hLP] at ht; cases ht⟩
    subst et
    rw [hP] at ht; cases ht
    have h7 : xs.length = 7 := by
      have := congrArg List.length hf
      simp at this; omega
    obtain ⟨a, b, c, d, e, f, g, rfl⟩ := seven h7
    have at_ : ∀ (i : Nat) (y : PV) (u : Nat), [a, b, c, d, e, f, g][i]? = some y → (fs.toList.map (·.type))[i]? = some u → ∃ fd k, fs[i]? = some fd ∧ fd.type = u ∧ ms[i]? = some k := by
      intro i y u hy hu
      have hi := (List.getElem?_eq_some_iff.1 hy).1
      simp only [List.getElem?_map, Option.map_eq_some_iff] at hu
      obtain ⟨fd, hfd, hu⟩ := hu
      have him : i < ms.length := by rw [hms]; exact hi
      exact ⟨fd, ms[i], by rw [← Array.getElem?_toList]; exact hfd, hu, List.getElem?_eq_getElem him⟩
    have fld : ∀ (i : Nat) (y : PV) (u : Nat), [a, b, c, d, e, f, g][i]? = some y → (fs.toList.map (·.type))[i]? = some u → ∃ k, HasT Q u y k ∧ k ≤ m := by
      intro i y u hy hu
      obtain ⟨fd, k, h1, h2, h3⟩ := at_ i y u hy hu
      have := mem_le_sum (l := ms) (List.mem_of_getElem? h3)
      exact ⟨k, h2 ▸ hh i fd y k h1 hy h3, by omega⟩
    rw [hf] at fld
    obtain ⟨k0, h0, q0⟩ := fld 0 a tI rfl rfl
    obtain ⟨k1, h1, q1⟩ := fld 1 b tS rfl rfl
    obtain ⟨k2, h2, q2⟩ := fld 2 c tS rfl rfl
    obtain ⟨k3, h3, q3⟩ := fld 3 d tLS rfl rfl
    obtain ⟨k4, h4, q4⟩ := fld 4 e tLV rfl rfl
    obtain ⟨k5, h5, q5⟩ := fld 5 f tT rfl rfl
    obtain ⟨fd6, k6, g1, g2, g3⟩ := at_ 6 g tLP rfl (by rw [hf]; rfl)
    obtain ⟨ks, rfl, hks, hkl⟩ := (ih 6 fd6 g k6 g1 rfl g3).2 g2
    obtain ⟨n0, rfl, _⟩ := hasT_int hI h0
    obtain ⟨s1, e1, _⟩ := hasT_str hS h1
    subst e1
    obtain ⟨s2, e2, _⟩ := hasT_str hS h2
    subst e2
    obtain ⟨ls, e3, hl1, hl2⟩ := strs_of hS hLS h3
    subst e3
    obtain ⟨ar, e4, ha1, ha2⟩ := list_ofP hLV (fun y k hy => vl_of hV hg hI hS hN hy) h4
    subst e4
    have hal := hasT_lenm h4
    rw [List.length_map] at hal
    have hk6 := mem_le_sum (l := ms) (List.mem_of_getElem? g3)
    obtain ⟨ty, e5, hty⟩ := hT _ _ h5
    subst e5
    refine ⟨.mk n0 s1 s2 ls ar ty ks, ?_, .mk _ (hasT_bound h1) (hasT_bound h2) hl2 hl1 ha2 ha1 hty hks fun x hx => (hkl x hx).1, .mk _ (by show ar.length ≤ m; omega) fun x hx => (hkl x hx).2.weak (by omega)⟩
    rw [Pr.enc_mk]
    simp only [List.flatMap_cons, List.flatMap_nil, Ty.cells_enc]
    rfl


/-! what is free -/

def aN (ar : List Vl) : List ByteArray := (ar.filter fun a => decide (a.kind = 1)).map Vl.name
def uN (k : Int) (c : ByteArray) (ar : List Vl) : List ByteArray := (if 2 ≤ k ∧ k ≤ 5 then [c] else []) ++ aN ar
def bnd (k : Int) (c v : ByteArray) (b : List ByteArray) : List ByteArray := if k = 3 then b ++ [v] else if k = 6 then b ++ [c, v] else b
mutual
def usF : Pr → List ByteArray → List ByteArray
  | .mk k c v _ ar _ ks, b => (uN k c ar).filter (fun s => !memB s b) ++ usFs ks (bnd k c v b)
def usFs : List Pr → List ByteArray → List ByteArray
  | [], _ => []
  | k :: r, b => usF k b ++ usFs r b
end
mutual
def nU : Pr → Nat
  | .mk _ _ _ _ ar _ ks => ar.length + 1 + nUs ks
def nUs : List Pr → Nat
  | [] => 0
  | k :: r => nU k + nUs r
end
theorem aN_len (ar : List Vl) : (aN ar).length ≤ ar.length := by
  unfold aN; rw [List.length_map]; exact List.length_filter_le _ _
theorem uN_len (k : Int) (c : ByteArray) (ar : List Vl) : (uN k c ar).length ≤ ar.length + 1 := by
  have := aN_len ar
  unfold uN; rw [List.length_append]; split <;> simp <;> omega
mutual
theorem usF_len : ∀ (p : Pr) (b : List ByteArray), (usF p b).length ≤ nU p
  | .mk k c v ls ar t ks, b => by
    have h1 := usFs_len ks (bnd k c v b)
    have h2 := uN_len k c ar
    have h3 := List.length_filter_le (fun s => !memB s b) (uN k c ar)
    simp only [usF, nU, List.length_append]; omega
theorem usFs_len : ∀ (l : List Pr) (b : List ByteArray), (usFs l b).length ≤ nUs l
  | [], b => by simp [usFs, nUs]
  | p :: r, b => by
    have h1 := usF_len p b
    have h2 := usFs_len r b
    simp only [usFs, nUs, List.length_append]; omega
end
mutual
theorem nU_le {B : Nat} : ∀ p : Pr, PA B p → nU p ≤ p.sz * (B + 1)
  | .mk k c v ls ar t ks, h => by
    cases h with
    | mk _ h hk =>
    have h2 := nUs_le ks hk
    have h : ar.length ≤ B := h
    simp only [nU, Pr.sz]
    rw [Nat.add_mul]; omega
theorem nUs_le {B : Nat} : ∀ l : List Pr, (∀ k ∈ l, PA B k) → nUs l ≤ Pr.szs l * (B + 1)
  | [], _ => by simp [nUs, Pr.szs]
  | p :: r, h => by
    have h1 := nU_le p (h p List.mem_cons_self)
    have h2 := nUs_le r fun k hk => h k (List.mem_cons_of_mem _ hk)
    simp only [nUs, Pr.szs]
    rw [Nat.add_mul]; omega
end
theorem usFs_take (l : List Pr) (b : List ByteArray) (j : Nat) (h : j < l.length) : usFs (l.take (j + 1)) b = usFs (l.take j) b ++ usF l[j] b := by
  induction l generalizing j with
  | nil => simp at h
  | cons x l ih =>
    cases j with
    | zero => simp [usFs]
    | succ j => simp only [List.take_succ_cons, usFs, List.getElem_cons_succ, ih j (by simpa using h), List.append_assoc]
theorem nUs_take (l : List Pr) (j : Nat) (h : j < l.length) : nUs (l.take j) + nU l[j] ≤ nUs l := by
  induction l generalizing j with
  | nil => simp at h
  | cons x l ih =>
    cases j with
    | zero => simp [nUs]
    | succ j =>
      have := ih j (by simpa using h)
      simp only [List.take_succ_cons, nUs, List.getElem_cons_succ]; omega

/-- added where they are not yet -/
def addAll (o l : List ByteArray) : List ByteArray := l.foldl (fun o s => addS s o) o
theorem addAll_nil (o : List ByteArray) : addAll o [] = o := rfl
theorem addAll_app (o l m : List ByteArray) : addAll o (l ++ m) = addAll (addAll o l) m := List.foldl_append
theorem addS_len (s : ByteArray) (o : List ByteArray) : (addS s o).length ≤ o.length + 1 := by
  unfold addS; split <;> simp
theorem addAll_len (l : List ByteArray) : ∀ o : List ByteArray, (addAll o l).length ≤ o.length + l.length := by
  induction l with
  | nil => intro o; simp [addAll]
  | cons s l ih =>
    intro o
    have h1 := ih (addS s o)
    have h2 := addS_len s o
    show (addAll (addS s o) l).length ≤ _
    rw [List.length_cons]; omega
def fltB (b l : List ByteArray) : List ByteArray := l.filter fun s => !memB s b
theorem fltB_app (b l m : List ByteArray) : fltB b (l ++ m) = fltB b l ++ fltB b m := List.filter_append ..
theorem fltB_one_in {b : List ByteArray} {s : ByteArray} (h : memB s b = true) : fltB b [s] = [] := by simp [fltB, h]
theorem fltB_one {b : List ByteArray} {s : ByteArray} (h : memB s b = false) : fltB b [s] = [s] := by simp [fltB, h]
theorem aN_take (ar : List Vl) (j : Nat) (h : j < ar.length) : aN (ar.take (j + 1)) = aN (ar.take j) ++ (if ar[j].kind = 1 then [ar[j].name] else []) := by
  unfold aN
  rw [List.take_succ, List.getElem?_eq_getElem h]
  simp only [Option.toList_some, List.filter_append, List.map_append]
  congr 1
  by_cases h1 : ar[j].kind = 1 <;> simp [h1]
theorem aN_take_len (ar : List Vl) (j : Nat) (h : j ≤ ar.length) : (aN (ar.take j)).length ≤ j := by
  have := aN_len (ar.take j)
  rw [List.length_take] at this; omega
theorem memB_pb (s : ByteArray) (l : List ByteArray) : pb (s ∈ l) = memB s l := (pb_of memB_iff).symm
end Go.Proofs.YtjekkidhbnkiaaaDoor.Tx
