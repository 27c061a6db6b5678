/- A verified reading of Go code into a small language (no conditions: a library for the claim's own proof): part D. -/
import Derived.Test.YtbfjpjllaibooaaGreatLfC
import Derived.Carry
import Derived.ChangeArms
import Derived.ChangeOld
import Derived.OpenShut
import Derived.Deep.DeepHandedRow
import Derived.Lib.LaidTab
set_option linter.all false
/- A range over a function: the rounds. -/
namespace Go.Lf
variable [Mk] [Gl]
open Go.RowKit
/-! ### the elements one by one -/
def iterDen (bC : List PV → List PV → List PV → Prop) (bS : List PV → List PV → Prop) (aft : List PV → Prop) : List (List PV) → List PV → Prop
 | [], zs => aft zs
 | y :: l, zs => (∃ zs', bC y zs zs' ∧ iterDen bC bS aft l zs') ∨ bS y zs
theorem iter_trace {bC : List PV → List PV → List PV → Prop} {bS : List PV → List PV → Prop} {aft : List PV → Prop} : ∀ (l : List (List PV)) (zs : List PV), iterDen bC bS aft l zs →
  ∃ (zss : Nat → List PV) (n : Nat) (stop : Bool), zss 0 = zs ∧ (∀ j, j < n → ∃ y, l[j]? = some y ∧ bC y (zss j) (zss (j + 1))) ∧ (stop = false → n = l.length ∧ aft (zss n)) ∧ (stop = true → ∃ y, l[n]? = some y ∧ bS y (zss n))
 | [], zs, h => ⟨fun _ => zs, 0, false, rfl, (fun j hj => by omega), fun _ => ⟨rfl, h⟩, fun h => by cases h⟩
 | y :: l, zs, h => by
  rcases h with ⟨zs', h1, h2⟩ | h1
  ·obtain ⟨zss, n, stop, e0, e1, e2, e3⟩ := iter_trace l zs' h2
   refine ⟨fun j => match j with
    | 0 => zs
    | j + 1 => zss j, n + 1, stop, rfl, fun j hj => ?_, fun hs => ?_, fun hs => ?_⟩
   ·cases j with
    | zero => exact ⟨y, rfl, by show bC y zs (zss 0); rw [e0]; exact h1⟩
    | succ j =>
     obtain ⟨y', g1, g2⟩ := e1 j (by omega)
     exact ⟨y', by simpa using g1, g2⟩
   ·obtain ⟨g1, g2⟩ := e2 hs
    exact ⟨by simp [g1], g2⟩
   ·obtain ⟨y', g1, g2⟩ := e3 hs
    exact ⟨y', by simpa using g1, g2⟩
  ·exact ⟨fun _ => zs, 0, true, rfl, (fun j hj => by omega), (fun h => by cases h), fun _ => ⟨y, rfl, h1⟩⟩
open Classical in
noncomputable def stepX (l : List (List PV)) (n : Nat) (stop : Bool) (x : PV) (ys : List PV) : Option (Bool × PV) :=
 match x with
 | .int _ j => if l[j.toNat]? = some ys ∧ 0 ≤ j ∧ j < n then some (true, .int .i64 (j + 1)) else if l[n]? = some ys ∧ j = n ∧ stop = true then some (false, .bool true) else none
 | _ => none
def iterDenF (fin : Bool) (bC : List PV → List PV → List PV → Prop) (bS : List PV → List PV → Prop) (aft : List PV → Prop) : List (List PV) → List PV → Prop := iterDen bC bS fun zs => fin = true ∧ aft zs
theorem runsF_trace {X : Xt} {fin : Bool} {l : List (List PV)} {n : Nat} {stop : Bool} (hX : X.step = stepX l n stop) (h0 : stop = false → n = l.length ∧ fin = true) (h1 : stop = true → n < l.length) :
  ∀ (q m : Nat), m + q = n → X.runsF fin (l.drop m) (.int .i64 m) = some (if stop then .bool true else .int .i64 n)
 | 0, m, hm => by
  have hmn : m = n := by omega
  subst hmn
  cases stop with
  | false =>
   obtain ⟨this, hf⟩ := h0 rfl
   rw [List.drop_of_length_le (by omega)]
   simp [Xt.runsF, hf]
  | true =>
   have hl := h1 rfl
   rw [List.drop_eq_getElem_cons hl]
   simp only [Xt.runsF, hX, stepX]
   have e1 : ¬ (l[((m : Int)).toNat]? = some l[m] ∧ (0 : Int) ≤ (m : Int) ∧ (m : Int) < (m : Int)) := by omega
   rw [if_neg e1, if_pos ⟨List.getElem?_eq_getElem hl, rfl, rfl⟩]
   simp
 | q + 1, m, hm => by
  have hl : m < l.length := by
   cases stop with
   | false => have := (h0 rfl).1; omega
   | true => have := h1 rfl; omega
  rw [List.drop_eq_getElem_cons hl]
  simp only [Xt.runsF, hX, stepX]
  have e1 : l[((m : Int)).toNat]? = some l[m] ∧ (0 : Int) ≤ (m : Int) ∧ (m : Int) < (n : Int) := ⟨by rw [Int.toNat_natCast]; exact List.getElem?_eq_getElem hl, by omega, by omega⟩
  rw [if_pos e1]
  have := runsF_trace hX h0 h1 q (m + 1) (by omega)
  simp only
  rw [← this]
  rfl
/-! ### what holds of the frame that ranges, between two rounds -/
structure RunAt (S : Fx) (F0 : Nat → Nat → Prop) (w0 : World) (tmps : Array Value) (s : St PV) (Fc : Nat → Nat → Prop) (sz lp D : Nat) (rc : Obj) (bs : List Nat) (G : Nat → Nat → Prop) (W : World) : Prop where
 ex : ∃ F ρ, R S F0 w0 F ρ tmps W s.gt s.go ∧ (∀ k, Own ρ s.go k → k ∈ bs ∧ k ≠ lp ∧ k ≠ D) ∧ (∀ b j, F b j → b ∈ bs ∨ G b j) ∧ ∀ b j, Fc b j → F b j
 lo : (∀ k, k < w0.heap.size → k ∈ bs ∨ S k) ∧ lp ∈ bs ∧ D ∈ bs
 rcd : W.heap[lp]? = some rc
 blk : W.heap[D]? = some (.deferred (some []))
theorem RunAt.stable {S : Fx} {F0 : Nat → Nat → Prop} {w0 : World} {tmps : Array Value} {s : St PV} {Fc : Nat → Nat → Prop} {sz lp D : Nat} {rc : Obj} {bs : List Nat} {G : Nat → Nat → Prop} {W W' : World} (h : RunAt S F0 w0 tmps s Fc sz lp D rc bs G W)
  (hsz : w0.heap.size ≤ sz) (hlp : lp < sz) (hD : D < sz) (hh : ∀ b ∈ bs, W'.heap[b]? = W.heap[b]?) (hG : ∀ b o, G b o → Same W W' b o) (hs : W.heap.size ≤ W'.heap.size) (ho : W'.os = W.os) (ht : W'.tape = W.tape) (hu : W'.output = W.output) :
  RunAt S F0 w0 tmps s Fc sz lp D rc bs G W' := by
 obtain ⟨F, ρ, h1, h2, h3, h4⟩ := h.ex
 exact ⟨⟨F, ρ, h1.alien (fun k hk => (h2 k hk).1) h3 h.lo.1 hh hG hs ho ht hu, h2, h3, h4⟩, h.lo, by rw [hh lp h.lo.2.1]; exact h.rcd, by rw [hh D h.lo.2.2]; exact h.blk⟩
section
variable {S : Fx} {F0 : Nat → Nat → Prop} {w0 : World} {tmps : Array Value} {s1 sT : St PV} {Fc F1 : Nat → Nat → Prop} {sz lp D : Nat} {rc : Obj} {bs : List Nat} {G : Nat → Nat → Prop} {W W5 : World} {AL : List Nat}
/-- behind a round: what was told over the round's own base -/
theorem round_fin {F : Nat → Nat → Prop} {ρ : Nat → Value} (h1 : R S F0 w0 F ρ tmps W s1.gt s1.go) (h2 : ∀ k, Own ρ s1.go k → k ∈ bs ∧ k ≠ lp ∧ k ≠ D) (h3 : ∀ b j, F b j → b ∈ bs ∨ G b j) (h4 : ∀ b j, Fc b j → F b j) (hlo : (∀ k, k < w0.heap.size → k ∈ bs ∨ S k) ∧ lp ∈ bs ∧ D ∈ bs)
  (hsz : w0.heap.size ≤ sz) (hlp : w0.heap.size ≤ lp) (hlps : lp < sz) (hbs : ∀ b ∈ bs, b < W.heap.size) (hF1 : ∀ b j, b ∈ bs → F1 b j → Fc b j) (hF1s : ∀ b o, F1 b o → b < W.heap.size) (hGF : ∀ b j, G b j → F1 b j) (hSal : ∀ o ∈ S.al, o ∈ AL)
  {F' : Nat → Nat → Prop} {ρ' : Nat → Value} {tm' : Array Value} {gt' : Nat → Option (SV PV)} (k5 : R ⟨fun k => Own ρ s1.go k ∨ k = lp, AL, ρ⟩ (fun b j => F b j ∨ F1 b j) W F' ρ' tm' W5 gt' sT.go)
  (hgt : ∀ t sv, sT.gt t = some sv → s1.gt t = some sv ∧ ∀ o ∈ svRefs sv, o ∈ AL) (hrec : W5.heap[lp]? = some rc) (hblk : W5.heap[D]? = some (.deferred (some []))) (hown : ∀ k, Own ρ' sT.go k → k ≠ lp ∧ k ≠ D) :
  ∃ bs', RunAt S F0 w0 tmps sT Fc sz lp D rc bs' F1 W5 ∧ Kp (· ∈ bs) W W5 ∧ (∀ b o, Fc b o → Same W W5 b o) ∧ (∀ b ∈ bs', b < W5.heap.size) ∧ (∀ b j, b ∈ bs' → F1 b j → Fc b j) ∧ (∀ b ∈ bs, b ∈ bs') ∧ ∀ b ∈ bs', b ∈ bs ∨ W.heap.size ≤ b := by
 have hW := k5.kp.size
 have hW0 := h1.kp.size
 have hmem : ∀ k, k ∈ bs ++ List.range' W.heap.size (W5.heap.size - W.heap.size) ↔ k ∈ bs ∨ (W.heap.size ≤ k ∧ k < W5.heap.size) := fun k => by
  rw [List.mem_append, List.mem_range'_1]
  exact or_congr Iff.rfl (by omega)
 have hlpb : lp ∈ bs := hlo.2.1
 have nb : ∀ k, k ∉ bs → w0.heap.size ≤ k ∨ S k := fun k hk => Classical.byCases (fun hlt : k < w0.heap.size => .inr ((hlo.1 k hlt).resolve_left hk)) fun hlt => .inl (Nat.le_of_not_lt hlt)
 refine ⟨bs ++ List.range' W.heap.size (W5.heap.size - W.heap.size), ⟨⟨F', ρ', ?_, fun k hk => ?_, fun b j hf => ?_, fun b j hf => k5.f0 b j (.inl (h4 b j hf))⟩, ⟨fun k hk => (hlo.1 k hk).imp (fun h => (hmem k).2 (.inl h)) id, (hmem lp).2 (.inl hlo.2.1), (hmem D).2 (.inl hlo.2.2)⟩, hrec, hblk⟩, ?_, fun b o hf => k5.f3 b o (.inl (h4 b o hf)), fun b hb => ?_, fun b j hb hf => ?_, fun b hb => (hmem b).2 (.inl hb), fun b hb => ((hmem b).1 hb).imp id (·.1)⟩
 ·refine h1.later ⟨k5.kp.os, k5.kp.tape, k5.kp.output, hW, fun i hi hn => k5.kp.block i hi fun hx => by
   rcases hx with hx | rfl
   ·exact hn (.inl hx)
   ·exact hn (.inr hlp)⟩ (fun b o hf => k5.f0 b o (.inl hf)) (fun b o hf => k5.f3 b o (.inl hf)) (fun b o hf => ?_) k5.f2 (fun o ho => k5.al o (hSal o ho)) (fun t sv ht => ?_) k5.ob fun o b ho k hk => ?_
  ·rcases k5.f1 b o hf with (h | h) | h | h
   ·exact .inl h
   ·by_cases hb : b ∈ bs
    ·exact .inl (h4 b o (hF1 b o hb h))
    ·exact (nb b hb).elim (fun h => .inr (.inl h)) fun h => .inr (.inr (.inr h))
   ·exact .inr (.inl (Nat.le_trans hW0 h))
   ·rcases h with h | h
    ·exact .inr (.inr (.inl h))
    ·exact .inr (.inl (h ▸ hlp))
  ·obtain ⟨g1, g2⟩ := hgt t sv ht
   obtain ⟨v, hv, hr⟩ := h1.tm t sv g1
   exact ⟨v, hv, hr.mono (fun b o hf => k5.f0 b o (.inl hf)) (fun b o hf => k5.f3 b o (.inl hf)) fun o ho => k5.al o (g2 o ho)⟩
  ·rcases k5.mine o b ho k hk with h | h | h
   ·exact .inl (Nat.le_trans hW0 h)
   ·exact .inr h
   ·exact .inl (h ▸ hlp)
 ·refine ⟨(hmem k).2 ?_, hown k hk⟩
  have hlt := k5.own_lt hk
  obtain ⟨o, b, g1, g2⟩ := hk
  rcases k5.mine o b g1 k g2 with h | h | h
  ·exact .inr ⟨h, hlt⟩
  ·exact .inl (h2 k h).1
  ·exact .inl (h ▸ hlpb)
 ·rcases k5.f1 b j hf with (h | h) | h | h
  ·exact (h3 b j h).imp (fun h => (hmem b).2 (.inl h)) (hGF b j)
  ·exact .inr h
  ·exact .inl ((hmem b).2 (.inr ⟨h, k5.f2 b j hf⟩))
  ·rcases h with h | h
   ·exact .inl ((hmem b).2 (.inl (h2 b h).1))
   ·exact .inl ((hmem b).2 (.inl (h ▸ hlpb)))
 ·exact ⟨k5.kp.os, k5.kp.tape, k5.kp.output, hW, fun i hi hn => k5.kp.block i hi fun hx => by
   rcases hx with hx | rfl
   ·exact hn (h2 i hx).1
   ·exact hn hlpb⟩
 ·rcases (hmem b).1 hb with h | h
  ·exact Nat.lt_of_lt_of_le (hbs b h) hW
  ·exact h.2
 ·rcases (hmem b).1 hb with h | h
  ·exact hF1 b j h hf
  ·have := hF1s b j hf; omega
end
end Go.Lf
/- A range over a function: one round does what its text says. -/
namespace Go.Lf
variable [Mk] [Gl]
open Go.RowKit
/-! ### a round's temporaries -/
def setL (l : List (Nat × Value)) (t : Array Value) : Array Value := l.foldl (fun t q => t.setIfInBounds q.1 q.2) t
theorem setL_size : ∀ (l : List (Nat × Value)) (t : Array Value), (setL l t).size = t.size
 | [], _ => rfl
 | q :: l, t => by
  show (setL l (t.setIfInBounds q.1 q.2)).size = _
  rw [setL_size l]; simp
theorem setL_out {i : Nat} : ∀ (l : List (Nat × Value)) (t : Array Value), i ∉ l.map (·.1) → (setL l t)[i]? = t[i]?
 | [], _, _ => rfl
 | q :: l, t, h => by
  simp only [List.map_cons, List.mem_cons, not_or] at h
  show (setL l (t.setIfInBounds q.1 q.2))[i]? = _
  rw [setL_out l _ h.2, Array.getElem?_setIfInBounds_ne (Ne.symm h.1)]
theorem setL_in {i : Nat} {v : Value} : ∀ (l : List (Nat × Value)) (t : Array Value), (l.map (·.1)).Nodup → (i, v) ∈ l → i < t.size → (setL l t)[i]? = some v
 | [], _, _, h, _ => by cases h
 | q :: l, t, hn, h, hi => by
  obtain ⟨n1, n2⟩ := List.nodup_cons.1 hn
  show (setL l (t.setIfInBounds q.1 q.2))[i]? = _
  rcases List.mem_cons.1 h with rfl | h
  ·rw [setL_out l _ n1]; simp [hi]
  ·exact setL_in l _ n2 h (by simpa using hi)
theorem setL_zip (ps : Array Nat) (vs t : Array Value) : (ps.zip vs).foldl (fun t (q : Nat × Value) => t.setIfInBounds q.1 q.2) t = setL (ps.toList.zip vs.toList) t := by
 rw [← Array.foldl_toList, Array.toList_zip]; rfl
/-- the head, as the frame that ranges knows it -/
def hdS (p : Plan) (s : St PV) (zs : List PV) : St PV := headGo pvAlg p.cars zs 0 (kept p s)
theorem roundSt_go (p : Plan) (s : St PV) (d : Nat) (ps : List Nat) (ys zs : List PV) (o : Nat) : (roundSt pvAlg p s d ps ys zs).go o = (hdS p s zs).go o := rfl
theorem roundSt_gt {p : Plan} {s : St PV} {d : Nat} {ps : List Nat} {ys zs : List PV} {t : Nat} {sv : SV PV} (h : (roundSt pvAlg p s d ps ys zs).gt t = some sv) :
  (∃ i, ps[i]? = some t ∧ sv = .at (.dat (instL ys i))) ∨ (t ∉ ps ∧ (hdS p s zs).gt t = some sv) := by
 have h : look ((ps.zipIdx.map fun q => (q.1, some (SV.at (A.dat (pvAlg.nth ys q.2))))) ++ (hdS p s zs).tm) t = some sv := h
 rw [look_append] at h
 split at h
 ·have := look_some _ _ _ h
  obtain ⟨q, hq, e⟩ := List.mem_map.1 this
  simp at e; obtain ⟨rfl, rfl⟩ := e
  exact .inl ⟨q.2, List.mem_zipIdx_iff_getElem?.1 hq, rfl⟩
 ·rename_i hn
  refine .inr ⟨fun hm => hn ?_, h⟩
  obtain ⟨i, hi, rfl⟩ := List.getElem_of_mem hm
  exact List.mem_map.2 ⟨_, List.mem_map.2 ⟨(ps[i], i), List.mem_zipIdx_iff_getElem?.2 (List.getElem?_eq_getElem hi), rfl⟩, rfl⟩
section
variable {P : Program} [XC P] {H : Hint} {K : PV → Prop}
/-- a way out of a round: what is told there gives the state that the frame that ranges goes on from -/
def Clo (P : Program) (K : PV → Prop) (p : Plan) (s : St PV) (zs : List PV) (AL : List Nat) (hs1 : List (List PV → Prop)) (Good : Option Code → St PV → Prop) (kont : St PV → T PV) (jump : Option Code) : Prop :=
 ∀ hs', hs1 <+: hs' → ∀ (s' : St PV) (a' : Act) (W4 : World) (S' : Fx) (F0' : Nat → Nat → Prop) (w0' : World) (ds' : List Deferred), s'.dep = hs'.length → s'.nt = s.nt → KInv ⟨p.ts, p.os, kept p s⟩ s' → s'.al = AL → StR S' F0' w0' ds' s' a' W4 → (kont s').den P K hs' →
  ∃ (sT : St PV) (gtT : Nat → Option (SV PV)), (∃ FT ρT, R S' F0' w0' FT ρT a'.tmps W4 gtT sT.go) ∧ (∀ t sv, sT.gt t = some sv → (hdS p s zs).gt t = some sv ∧ ∀ o ∈ svRefs sv, o ∈ AL) ∧ Good jump sT
theorem one_round {assign body : Code} {ps : Array Nat} (ha : Sound P H K assign) (hb : Sound P H K body) {S : Fx} {F0 : Nat → Nat → Prop} {w0 : World} {x : Ctx PV} {s : St PV} {p : Plan} {a : Act} (hgl : GlOk F0 w0) (hal : s.al = S.al) (hasz : a.tmps.size = s.nt)
  (hok : p.ok pvAlg s = true) (hokR : p.okR s ps.toList = true) {fn : FuncId} {Fc : Nat → Nat → Prop} {sz lp D : Nat} (hsz : w0.heap.size ≤ sz) (hlp : w0.heap.size ≤ lp) (hlps : lp < sz) (hDs : D < sz) (hne : lp ≠ D) {rc : LoopState → Option Code → Loop}
  (hrc : rc = fun st pe => { state := st, pending := pe, fn, tmps := a.tmps, params := ps, assign, body, defers := D }) {zs ys : List PV} {vs : Array Value} {W : World} {F1 : Nat → Nat → Prop} {bs : List Nat} {G : Nat → Nat → Prop}
  (hrun : RunAt S F0 w0 a.tmps (hdS p s zs) Fc sz lp D (.loop (rc .ready none)) bs G W) (hbs : ∀ b ∈ bs, b < W.heap.size) (hF1 : ∀ b j, b ∈ bs → F1 b j → Fc b j) (hF1s : ∀ b o, F1 b o → b < W.heap.size) (hGF : ∀ b j, G b j → F1 b j)
  (hvs : Reps F1 W vs ys) (hvl : vs.size = ps.size) {hs1 : List (List PV → Prop)} {xb : Ctx PV} (hxb : xb.round = true) {kb : St PV → T PV}
  (hden : (com pvAlg P H assign (noX x) (roundSt pvAlg p s hs1.length ps.toList ys zs) fun s1 => com pvAlg P H body xb s1 kb).den P K hs1) {Good : Option Code → St PV → Prop}
  (cN : Clo P K p s zs (s.al ++ (p.os ++ p.cars.flatMap Car.stay)) hs1 Good kb none) (cE : ∀ id k', lookE xb.exits id = some k' → Clo P K p s zs (s.al ++ (p.os ++ p.cars.flatMap Car.stay)) hs1 Good k' (some (.exit id)))
  (cR : Clo P K p s zs (s.al ++ (p.os ++ p.cars.flatMap Car.stay)) hs1 Good xb.ret (some .ret)) :
  RoundIn Fence.wide 0 P lp fn (setL (ps.toList.zip vs.toList) a.tmps) assign body W fun e W5 => ∃ (jump : Option Code) (sT : St PV), e = .returned (.bool jump.isNone) ∧ Good jump sT ∧
   ∃ bs', RunAt S F0 w0 a.tmps sT Fc sz lp D (.loop (rc (if jump.isNone then .ready else .done) jump)) bs' F1 W5 ∧ Kp (· ∈ bs) W W5 ∧ (∀ b o, Fc b o → Same W W5 b o) ∧ (∀ b ∈ bs', b < W5.heap.size) ∧ (∀ b j, b ∈ bs' → F1 b j → Fc b j) ∧ (∀ b ∈ bs, b ∈ bs') ∧ ∀ b ∈ bs', b ∈ bs ∨ W.heap.size ≤ b := by
 obtain ⟨F, ρ, h1, h2, h3, h4⟩ := hrun.ex
 have hrcd := hrun.rcd
 have hblk := hrun.blk
 have hlo := hrun.lo
 have hokP := okP hok
 simp only [Plan.okR, Bool.and_eq_true, List.all_eq_true, Bool.not_eq_true'] at hokR
 obtain ⟨⟨⟨⟨r1, r2⟩, r3⟩, r4⟩, r5⟩ := hokR
 have hnd : ps.toList.Nodup := seqL_nodup r2
 have hpts : ∀ t, t ∈ ps.toList → t ∉ p.ts := fun t ht => meets_iff r3 t ht
 have hlpW : lp < W.heap.size := (Array.getElem?_eq_some_iff.1 hrcd).1
 have hDW : D < W.heap.size := (Array.getElem?_eq_some_iff.1 hblk).1
 generalize hAL : s.al ++ (p.os ++ p.cars.flatMap Car.stay) = AL at cN cE cR
 have hzl : (ps.toList.zip vs.toList).map (·.1) = ps.toList := by
  rw [List.map_fst_zip]; simp [hvl]
 -- the round's base
 have hFr : ∀ b j, b ∈ bs → (F b j ∨ F1 b j) → F b j := fun b j hb hf => hf.elim id fun h => h4 b j (hF1 b j hb h)
 have k1 : R ⟨Own ρ (hdS p s zs).go, AL, ρ⟩ (fun b j => F b j ∨ F1 b j) W (fun b j => F b j ∨ F1 b j) ρ (setL (ps.toList.zip vs.toList) a.tmps) W (roundSt pvAlg p s hs1.length ps.toList ys zs).gt (roundSt pvAlg p s hs1.length ps.toList ys zs).go := by
  refine h1.fresh AL (fun _ _ h => .inl h) (fun _ _ _ => Same.refl _ _ _) (fun b o hf => hf.elim (h1.f2 b o) (hF1s b o)) (fun k hk => ⟨rfl, fun j hf => hFr k j (h2 k hk).1 hf⟩) ⟨rfl, rfl, rfl, Nat.le_refl _, fun _ _ h => absurd trivial h⟩ fun t sv ht => ?_
  rcases roundSt_gt ht with ⟨i, hi, rfl⟩ | ⟨ht1, ht2⟩
  ·have hip : i < ps.toList.length := (List.getElem?_eq_some_iff.1 hi).1
   have hiv : i < vs.size := by rw [hvl]; simpa using hip
   have hiy : i < ys.length := by rw [← hvs.1]; exact hiv
   have hyi : instL ys i = ys[i] := by simp [instL, List.getD_eq_getElem?_getD, hiy]
   have hmem : (t, vs[i]) ∈ ps.toList.zip vs.toList := by
    refine List.mem_iff_getElem?.2 ⟨i, ?_⟩
    rw [List.getElem?_zip_eq_some]
    exact ⟨hi, by simp [hiv]⟩
   have htn : t < a.tmps.size := by
    have := r4 t (List.mem_of_getElem? hi)
    rw [hasz]; simpa using this
   refine .inr ⟨vs[i], setL_in _ _ (by rw [hzl]; exact hnd) hmem htn, ?_⟩
   rw [hyi]
   exact (hvs.2 i vs[i] ys[i] (by simp [hiv]) (by simp [hiy])).mono (fun _ _ h => .inr h) fun _ _ _ => Same.refl _ _ _
  ·exact .inl ⟨ht2, setL_out _ _ (by rw [hzl]; exact ht1)⟩
 have hKp1 : KInv ⟨p.ts, p.os, kept p s⟩ (roundSt pvAlg p s hs1.length ps.toList ys zs) := by
  refine ⟨fun t ht _ v hv => ?_, fun o ho _ b hb => ?_⟩
  ·have e1 : (hdS p s zs).gt t = some v := by
    rw [show (hdS p s zs).gt t = (kept p s).gt t from headGo_gt p.cars zs 0 (kept p s) (ok_tmps hok t ht)]; exact hv
   show look ((ps.toList.zipIdx.map fun q => (q.1, some (SV.at (A.dat (pvAlg.nth ys q.2))))) ++ (hdS p s zs).tm) t = some v
   rw [look_append, if_neg]
   ·exact e1
   ·intro hm
    obtain ⟨q, hq, rfl⟩ := List.mem_map.1 hm
    obtain ⟨q', hq', rfl⟩ := List.mem_map.1 hq
    exact hpts _ (List.mem_of_getElem? (List.mem_zipIdx_iff_getElem?.1 hq')) ht
  ·rw [roundSt_go, show (hdS p s zs).go o = (kept p s).go o from headGo_go p.cars zs 0 (kept p s) (ok_objs hok o ho).1 (ok_objs hok o ho).2]; exact hb
 have hgl1 : GlOk (fun b j => F b j ∨ F1 b j) W := hgl.mono h1.kp.size (fun b o hf => .inl (h1.f0 b o hf)) h1.f3
 have hnt1 : (roundSt pvAlg p s hs1.length ps.toList ys zs).nt = s.nt := by
  show (headGo pvAlg p.cars zs 0 (kept p s)).nt = s.nt
  rw [headGo_nt]; rfl
 have hst1 : StR ⟨Own ρ (hdS p s zs).go, AL, ρ⟩ (fun b j => F b j ∨ F1 b j) W [] (roundSt pvAlg p s hs1.length ps.toList ys zs) { tmps := setL (ps.toList.zip vs.toList) a.tmps, defers := [] } W :=
  ⟨hgl1, hAL, by rw [hnt1]; exact (setL_size _ _).trans hasz, rfl, _, _, k1⟩
 have hnlp : ¬ Own ρ (hdS p s zs).go lp := fun h => (h2 lp h).2.1 rfl
 have hnD : ¬ Own ρ (hdS p s zs).go D := fun h => (h2 D h).2.2 rfl
 have vac : ∀ G : Act → World → Prop, Cont P ⟨Own ρ (hdS p s zs).go, AL, ρ⟩ (fun b j => F b j ∨ F1 b j) W [] K hs1 (roundSt pvAlg p s hs1.length ps.toList ys zs).nt [⟨p.ts, p.os, kept p s⟩] (noX x).ret G := fun G _ _ _ _ _ _ _ _ _ _ _ _ _ _ h => h.elim
 refine roundIn_of_wpIn trivial (ha (some lp) ⟨Own ρ (hdS p s zs).go, AL, ρ⟩ _ W [] (noX x) _ _ hs1 [⟨p.ts, p.os, kept p s⟩] _ W _ (fun h => by cases h) rfl (fun B hB => by rw [List.mem_singleton.1 hB]; exact hKp1) hst1 hden ?_ (fun id k' hl => by cases hl) (vac _))
 -- behind the assignment
 intro S1 F01 W01 ds1 hext hs2 hp2 s1 a1 W2 hd1 hn1 hB1 hst2 hden2
 obtain ⟨F2, ρ2, k2'⟩ := hst2.ex
 have k2 := hext.r k2'
 have hlp2 : W2.heap[lp]? = some (.loop (rc .ready none)) := (k2.kp.block lp hlpW hnlp).trans hrcd
 have hD2 : W2.heap[D]? = some (.deferred (some [])) := (k2.kp.block D hDW hnD).trans hblk
 have hW2 := k2.kp.size
 have own2 : ∀ k, Own ρ2 s1.go k → W.heap.size ≤ k ∨ Own ρ (hdS p s zs).go k := fun k ⟨o, b, g1, g2⟩ => k2.mine o b g1 k g2
 have hn2 : ¬ Own ρ2 s1.go lp := fun h => (own2 lp h).elim (fun h => by omega) hnlp
 have hn2D : ¬ Own ρ2 s1.go D := fun h => (own2 D h).elim (fun h => by omega) hnD
 have hbegin : (Instr.beginRound lp).run P W2 = .ok () (W2.putObj lp (.loop (rc .busy none))) := by
  rw [run_beginRound hlp2 (by rw [hrc]), hrc]
 refine ⟨W2.putObj lp (.loop (rc .busy none)), hbegin, ?_⟩
 have k3 : R ⟨fun k => Own ρ (hdS p s zs).go k ∨ k = lp, AL, ρ⟩ (fun b j => F b j ∨ F1 b j) W F2 ρ2 a1.tmps (W2.putObj lp (.loop (rc .busy none))) s1.gt s1.go :=
  (k2.weakS (T := fun k => Own ρ (hdS p s zs).go k ∨ k = lp) fun k h => .inl h).putObj hlp2 rfl rfl (.inr (.inr rfl)) hn2
 have hal1 : s1.al = AL := hst2.al.trans hext.al
 have hst3 : StR ⟨Own ρ2 s1.go, AL, ρ2⟩ F2 (W2.putObj lp (.loop (rc .busy none))) ds1 s1 a1 (W2.putObj lp (.loop (rc .busy none))) :=
  ⟨hgl1.mono k3.kp.size k3.f0 k3.f3, hal1, hst2.size, hst2.defers, F2, ρ2, k3.fresh AL (fun _ _ h => h) (fun _ _ _ => Same.refl _ _ _) k3.f2 (fun k _ => ⟨rfl, fun _ h => h⟩) ⟨rfl, rfl, rfl, Nat.le_refl _, fun _ _ h => absurd trivial h⟩ fun t sv ht => .inl ⟨ht, rfl⟩⟩
 -- the round's end
 have close : ∀ (kont : St PV → T PV) (jump : Option Code), Clo P K p s zs AL hs1 Good kont jump → Cont P ⟨Own ρ2 s1.go, AL, ρ2⟩ F2 (W2.putObj lp (.loop (rc .busy none))) ds1 K hs2 s1.nt [⟨p.ts, p.os, kept p s⟩] kont fun a' W4 =>
   ∃ v W5, (Instr.endRound lp jump).run P W4 = .ok v W5 ∧ ∃ (jump : Option Code) (sT : St PV), Ending.returned v = .returned (.bool jump.isNone) ∧ Good jump sT ∧
    ∃ bs', RunAt S F0 w0 a.tmps sT Fc sz lp D (.loop (rc (if jump.isNone then .ready else .done) jump)) bs' F1 W5 ∧ Kp (· ∈ bs) W W5 ∧ (∀ b o, Fc b o → Same W W5 b o) ∧ (∀ b ∈ bs', b < W5.heap.size) ∧ (∀ b j, b ∈ bs' → F1 b j → Fc b j) ∧ (∀ b ∈ bs, b ∈ bs') ∧ ∀ b ∈ bs', b ∈ bs ∨ W.heap.size ≤ b := by
  intro kont jump hc S4 F04 W04 ds4 hext4 hs3 hp3 s' a' W4 hd4 hn4 hB4 hst4 hden4
  obtain ⟨sT, gtT, ⟨FT, ρT, kT'⟩, hgt, hgood⟩ := hc hs3 (hp2.trans hp3) s' a' W4 S4 F04 W04 ds4 hd4 (hn4.trans (hn1.trans hnt1)) (hB4 _ List.mem_cons_self) (hst4.al.trans hext4.al) hst4 hden4
  have kT := hext4.r kT'
  have hlp3 : (W2.putObj lp (.loop (rc .busy none))).heap[lp]? = some (.loop (rc .busy none)) := World.putObj_heap_same (by omega)
  have hD3 : (W2.putObj lp (.loop (rc .busy none))).heap[D]? = some (.deferred (some [])) := (World.putObj_heap_other hne.symm).trans hD2
  have hlp4 : W4.heap[lp]? = some (.loop (rc .busy none)) := (kT.kp.block lp (Array.getElem?_eq_some_iff.1 hlp3).1 hn2).trans hlp3
  have hD4 : W4.heap[D]? = some (.deferred (some [])) := (kT.kp.block D (Array.getElem?_eq_some_iff.1 hD3).1 hn2D).trans hD3
  have hend : (Instr.endRound lp jump).run P W4 = .ok (.bool jump.isNone) (W4.putObj lp (.loop (rc (if jump.isNone then .ready else .done) jump))) := by
   rw [run_endRound jump hlp4, hrc]
  have ownT : ∀ k, Own ρT sT.go k → (W2.putObj lp (.loop (rc .busy none))).heap.size ≤ k ∨ Own ρ2 s1.go k := fun k ⟨o, b, g1, g2⟩ => kT.mine o b g1 k g2
  have hnT : ¬ Own ρT sT.go lp := fun h => (ownT lp h).elim (fun h => by rw [World.putObj_size] at h; omega) hn2
  have hnTD : ¬ Own ρT sT.go D := fun h => (ownT D h).elim (fun h => by rw [World.putObj_size] at h; omega) hn2D
  have k5 := ((k3.over (fun _ h => h) kT).putObj (o2 := .loop (rc (if jump.isNone then .ready else .done) jump)) hlp4 rfl rfl (.inr (.inr rfl)) hnT)
  refine ⟨_, _, hend, jump, sT, rfl, hgood, ?_⟩
  exact round_fin h1 h2 h3 h4 hlo hsz hlp hlps hbs hF1 hF1s hGF (fun o ho => by rw [← hAL]; exact List.mem_append.2 (.inl (hal ▸ ho))) k5 hgt (World.putObj_heap_same (Array.getElem?_eq_some_iff.1 hlp4).1) ((World.putObj_heap_other hne.symm).trans hD4)
   fun k hk => ⟨fun e => hnT (e ▸ hk), fun e => hnTD (e ▸ hk)⟩
 exact hb (some lp) ⟨Own ρ2 s1.go, AL, ρ2⟩ F2 _ ds1 xb s1 kb hs2 [⟨p.ts, p.os, kept p s⟩] a1 _ _ (fun h => by rw [hxb] at h; cases h) hd1 (fun B hB => hB1 B hB) hst3 hden2 (close kb none cN) (fun id k' hl => close k' _ (cE id k' hl)) (close xb.ret _ cR)
end
end Go.Lf
/- A range over a function does what its text says. -/
namespace Go.Lf
variable [Mk] [Gl]
open Go.RowKit
theorem look_fm {β : Type} (c : Nat → Bool) (f : Nat → Option β) {t : Nat} {v : β} (hc : c t = true) (hf : f t = some v) : ∀ (l : List Nat), t ∈ l → look (l.filterMap fun t => if c t then (f t).map fun v => (t, some v) else none) t = some v
 | [], h => by cases h
 | u :: l, h => by
  rw [List.filterMap_cons]
  by_cases he : u = t
  ·subst he; simp [hc, hf, look_cons]
  ·have h' : t ∈ l := (List.mem_cons.1 h).resolve_left (Ne.symm he)
   have ih := look_fm c f hc hf l h'
   split
   ·exact ih
   ·rename_i q hq
    split at hq
    ·simp only [Option.map_eq_some_iff] at hq
     obtain ⟨v', _, rfl⟩ := hq
     rw [look_cons, if_neg he]; exact ih
    ·cases hq
theorem hdS_gt {p : Plan} {s : St PV} (ho : p.cars.all Car.isObj = true) (zs : List PV) (t : Nat) : (hdS p s zs).gt t = (kept p s).gt t := by
 refine headGo_gt p.cars zs 0 (kept p s) fun hm => ?_
 obtain ⟨c, hc, ht⟩ := List.mem_flatMap.1 hm
 have := List.all_eq_true.1 ho c hc
 cases c <;> first | (cases this; done) | (cases ht; done)
def GoodS (P : Program) (K : PV → Prop) (x : Ctx PV) (s : St PV) (hs : List (List PV → Prop)) (bsB : List Base) (jump : Option Code) (sT : St PV) : Prop :=
 ∃ c kont hs', jump = some c ∧ ((c = .ret ∧ kont = x.ret) ∨ ∃ id, c = .exit id ∧ lookE x.exits id = some kont) ∧ hs <+: hs' ∧ sT.dep = hs'.length ∧ sT.nt = s.nt ∧ sT.al = s.al ∧ (∀ B ∈ bsB, KInv B sT) ∧ (kont sT).den P K hs'
/-- what holds of the frame that ranges, by the party's state -/
def JX (S : Fx) (F0 : Nat → Nat → Prop) (w0 : World) (tmps : Array Value) (p : Plan) (s : St PV) (zss : Nat → List PV) (n : Nat) (F : Nat → Nat → Prop) (sz D : Nat) (rc : LoopState → Option Code → Loop) (GS : Option Code → St PV → Prop) (x : PV) (bs : List Nat) (G : Nat → Nat → Prop) (W : World) : Prop :=
 match x with
 | .int _ j => ∃ m : Nat, j = m ∧ m ≤ n ∧ RunAt S F0 w0 tmps (hdS p s (zss m)) F sz (D + 1) D (.loop (rc .ready none)) bs G W
 | .bool _ => ∃ c sT, GS (some c) sT ∧ RunAt S F0 w0 tmps sT F sz (D + 1) D (.loop (rc .done (some c))) bs G W
 | _ => False
theorem JX.stable {S : Fx} {F0 : Nat → Nat → Prop} {w0 : World} {tmps : Array Value} {p : Plan} {s : St PV} {zss : Nat → List PV} {n : Nat} {F : Nat → Nat → Prop} {sz D : Nat} {rc : LoopState → Option Code → Loop} {GS : Option Code → St PV → Prop} (hsz0 : w0.heap.size ≤ sz) (hD : D + 1 < sz) :
  ∀ x bs G W W', JX S F0 w0 tmps p s zss n F sz D rc GS x bs G W → (∀ b ∈ bs, W'.heap[b]? = W.heap[b]?) → (∀ b o, G b o → Same W W' b o) → W.heap.size ≤ W'.heap.size → W'.os = W.os → W'.tape = W.tape → W'.output = W.output → JX S F0 w0 tmps p s zss n F sz D rc GS x bs G W' := by
 intro x bs G W W' hJ hh hG hs ho ht hu
 match x, hJ with
 | .int _ j, hJ =>
  obtain ⟨m, h1, h2, h3⟩ := hJ
  exact ⟨m, h1, h2, h3.stable hsz0 hD (by omega) hh hG hs ho ht hu⟩
 | .bool _, hJ =>
  obtain ⟨c, sT, h1, h2⟩ := hJ
  exact ⟨c, sT, h1, h2.stable hsz0 hD (by omega) hh hG hs ho ht hu⟩
noncomputable def mkX {S : Fx} {F0 : Nat → Nat → Prop} {w0 : World} (tmps : Array Value) (p : Plan) (s : St PV) (zss : Nat → List PV) (n : Nat) (F : Nat → Nat → Prop) {sz D : Nat} (rc : LoopState → Option Code → Loop) (GS : Option Code → St PV → Prop) (l : List (List PV)) (stop : Bool) (hsz0 : w0.heap.size ≤ sz) (hD : D + 1 < sz) : Xt :=
 { yv := .func (.yield (D + 1)) #[] #[], one := rfl, F0 := F, J := JX S F0 w0 tmps p s zss n F sz D rc GS, step := stepX l n stop, stable := JX.stable hsz0 hD }
section
variable {P : Program} [XC P] {H : Hint} {K : PV → Prop}
theorem range_xtc {ps : Array Tmp} {assign body : Code} (ha : Sound P H K assign) (hb : Sound P H K body) {S : Fx} {F0 : Nat → Nat → Prop} {w0 : World} {x : Ctx PV} {s : St PV} {p : Plan} {a : Act} {hs : List (List PV → Prop)} {bsB : List Base} (hgl : GlOk F0 w0) (hal : s.al = S.al) (hasz : a.tmps.size = s.nt)
  (hd : s.dep = hs.length) (hB : ∀ B ∈ bsB, KInv B s) (hok : p.ok pvAlg s = true) (hokR : p.okR s ps.toList = true) (hobj : p.cars.all Car.isObj = true) {F : Nat → Nat → Prop} {sz D : Nat} (hsz0 : w0.heap.size ≤ sz) (hlp0 : w0.heap.size ≤ D + 1) (hDs : D + 1 < sz) {fn : FuncId}
  {rc : LoopState → Option Code → Loop} (hrc : rc = fun st pe => { state := st, pending := pe, fn, tmps := a.tmps, params := ps, assign, body, defers := D }) {l : List (List PV)} (hln : ∀ y ∈ l, y.length = ps.size) {zss : Nat → List PV} {n : Nat} {stop : Bool}
  (zc : ∀ j, j < n → ∃ y, l[j]? = some y ∧ (com pvAlg P H assign (noX x) (roundSt pvAlg p s (s.dep + 1) ps.toList y (zss j)) fun s1 => com pvAlg P H body (noX x) s1 (backK pvAlg p s)).den P K (hs ++ [fun us => us = zss (j + 1)]))
  (zst : stop = true → ∃ y, l[n]? = some y ∧ (com pvAlg P H assign (noX x) (roundSt pvAlg p s s.dep ps.toList y (zss n)) fun s1 => com pvAlg P H body (inR p s x) s1 fun _ => .fail).den P K hs)
  (hAL : ∀ t sv, (kept p s).gt t = some sv → ∀ o ∈ svRefs sv, o ∈ s.al ++ (p.os ++ p.cars.flatMap Car.stay)) (hkgt : ∀ t ∈ p.ts, ∃ v, s.gt t = some v) :
  XtC P (mkX (S := S) (F0 := F0) a.tmps p s zss n F rc (GoodS P K x s hs bsB) l stop hsz0 hDs) := by
 have hE := enters'
 intro F1 W1 vs ys bs x1 x1' b hF1s hvs hXJ hst
 obtain ⟨hbs, hF1, G, hGF, hJ⟩ := hXJ
 have hst : stepX l n stop x1 ys = some (b, x1') := hst
 unfold stepX at hst
 split at hst
 rotate_left
 ·cases hst
 rename_i kk j
 obtain ⟨m, rfl, hmn, hrun⟩ := hJ
 have vlen : ∀ q, l[q]? = some ys → vs.size = ps.size := fun q hq => by rw [hvs.1]; exact hln ys (List.mem_of_getElem? hq)
 have hyl : ∀ q, l[q]? = some ys → (Instr.yield (D + 1) vs).run P W1 = .ok (.round (D + 1) fn (setL (ps.toList.zip vs.toList) a.tmps) assign body) W1 := fun q hq => by
  have hvl := vlen q hq
  have := run_yield (P := P) (args := vs) hrun.rcd (by rw [hrc]; exact hvl)
  rw [this, hrc]
  simp only
  rw [setL_zip]
 split at hst
 ·rename_i hc
  obtain ⟨c1, c2, c3⟩ := hc
  simp only [Option.some.injEq, Prod.mk.injEq] at hst
  obtain ⟨rfl, rfl⟩ := hst
  rw [Int.toNat_natCast] at c1
  obtain ⟨y, hy, hbc⟩ := zc m (by omega)
  rw [c1] at hy; cases hy
  have hbc : (com pvAlg P H assign (noX x) (roundSt pvAlg p s (hs ++ [fun us => us = zss (m + 1)]).length ps.toList ys (zss m)) fun s1 => com pvAlg P H body (noX x) s1 (backK pvAlg p s)).den P K (hs ++ [fun us => us = zss (m + 1)]) := by
   rw [show (hs ++ [fun us => us = zss (m + 1)]).length = s.dep + 1 by simp [hd]]; exact hbc
  refine ⟨D + 1, fn, _, assign, body, rfl, hyl m c1, ?_⟩
  refine (one_round (Good := fun jump sT => jump = none ∧ sT = hdS p s (zss (m + 1))) ha hb hgl hal hasz hok hokR hsz0 hlp0 (by omega) (by omega) (by omega) hrc hrun hbs hF1 hF1s hGF hvs (vlen m c1) rfl hbc ?_ (fun id k' hl => by cases hl) ?_).mono fun e W5 hh => ?_
  ·intro hs' hp s' a' W4 S' F0' w0' ds' hd' hn' hKB hal' hst' hden'
   unfold backK at hden'
   split at hden'
   rotate_left
   ·cases hden'
   rename_i hcb
   simp only [Bool.and_eq_true] at hcb
   obtain ⟨hok', hstay⟩ := hcb
   split at hden'
   rotate_left
   ·cases hden'
   rename_i zs' hzs'
   have hz : zs' = zss (m + 1) := by
    unfold T.den at hden'
    have hget : hs'[s.dep]? = some fun us => us = zss (m + 1) := by
     obtain ⟨tl, rfl⟩ := hp
     rw [hd]; simp
    rw [hget] at hden'
    exact hden'
   subst hz
   simp only [Plan.stayed, Bool.and_eq_true, List.all_eq_true] at hstay
   have hent := hE P S' F0' w0' ds' p s' { kept p s with al := s'.al } a' W4 (zss (m + 1)) hst' hok' hzs' (by rw [hn']; rfl) rfl ⟨fun t v hv => hKB.1 t (kept_gt hv).1 (has_mem (hstay.1 t (kept_gt hv).1)) v hv, fun o b hb => hKB.2 o (kept_go hb).1 (has_mem (hstay.2 o (kept_go hb).1)) b hb⟩
    (fun t v hv => (kept_gt hv).1) (fun o b hb => (kept_go hb).1)
   obtain ⟨F', ρ', hR'⟩ := hent.ex
   have hw := headGo_with p.cars (zss (m + 1)) 0 (kept p s) { kept p s with al := s'.al } rfl rfl
   refine ⟨hdS p s (zss (m + 1)), (headGo pvAlg p.cars (zss (m + 1)) 0 { kept p s with al := s'.al }).gt, ⟨F', ρ', ?_⟩, fun t sv ht => ?_, rfl, rfl⟩
   ·have e : (headGo pvAlg p.cars (zss (m + 1)) 0 { kept p s with al := s'.al }).go = (hdS p s (zss (m + 1))).go := by
     funext o
     show look _ o = look _ o
     rw [hw.2]; rfl
    rw [← e]; exact hR'
   ·rw [hdS_gt hobj] at ht ⊢
    exact ⟨ht, hAL t sv ht⟩
  ·exact fun hs' hp s' a' W4 S' F0' w0' ds' hd' hn' hKB hal' hst' hden' => hden'.elim
  ·obtain ⟨jump, sT, rfl, ⟨rfl, rfl⟩, bs', g1, g2, g3, g4, g5, g6, g7⟩ := hh
   exact ⟨rfl, bs', g2, g3, ⟨g4, g5, F1, fun _ _ h => h, m + 1, by simp, by omega, g1⟩, g6, g7⟩
 ·split at hst
  rotate_left
  ·cases hst
  rename_i hc
  obtain ⟨c1, c2, c3⟩ := hc
  simp only [Option.some.injEq, Prod.mk.injEq] at hst
  obtain ⟨rfl, rfl⟩ := hst
  obtain rfl : m = n := by omega
  obtain ⟨y, hy, hbs1⟩ := zst c3
  rw [c1] at hy; cases hy
  have hbs1 : (com pvAlg P H assign (noX x) (roundSt pvAlg p s hs.length ps.toList ys (zss m)) fun s1 => com pvAlg P H body (inR p s x) s1 fun _ => .fail).den P K hs := by rw [← hd]; exact hbs1
  refine ⟨D + 1, fn, _, assign, body, rfl, hyl m c1, ?_⟩
  have clo : ∀ (kont : St PV → T PV) (c : Code), ((c = .ret ∧ kont = x.ret) ∨ ∃ id, c = .exit id ∧ lookE x.exits id = some kont) → Clo P K p s (zss m) (s.al ++ (p.os ++ p.cars.flatMap Car.stay)) hs (GoodS P K x s hs bsB) (fun s' => kont (stripSt p s s')) (some c) := by
   intro kont c hkc hs' hp s' a' W4 S' F0' w0' ds' hd' hn' hKB hal' hst' hden'
   obtain ⟨F', ρ', hR'⟩ := hst'.ex
   have skt : ∀ t ∈ p.ts, t ∈ s'.kt → ∃ v, s.gt t = some v ∧ s'.gt t = some v := fun t ht hkt => by
    obtain ⟨v, hv⟩ := hkgt t ht
    exact ⟨v, hv, hKB.1 t ht hkt v (by rw [kept_gt_of ht]; exact hv)⟩
   refine ⟨stripSt p s s', s'.gt, ⟨F', ρ', hR'⟩, fun t sv ht => ?_, c, kont, hs', rfl, hkc, hp, hd', hn', rfl, fun B hBm => ⟨fun t ht hkt v hv => ?_, fun o ho hko b hb => ?_⟩, hden'⟩
   ·have ht : look (p.ts.filterMap fun t => if has s'.kt t then (s'.gt t).map fun v => (t, some v) else none) t = some sv := ht
    have hm := look_some _ _ _ ht
    simp only [List.mem_filterMap] at hm
    obtain ⟨u, hu, e⟩ := hm
    split at e
    ·rename_i hkt
     simp only [Option.map_eq_some_iff, Prod.mk.injEq, Option.some.injEq] at e
     obtain ⟨v, hv, rfl, rfl⟩ := e
     obtain ⟨v', g1, g2⟩ := skt u hu (has_mem hkt)
     rw [hv] at g2; cases g2
     have e2 : (hdS p s (zss m)).gt u = some v := by rw [hdS_gt hobj, kept_gt_of hu]; exact g1
     exact ⟨e2, hAL u v (by rw [kept_gt_of hu]; exact g1)⟩
    ·cases e
   ·have hkt : t ∈ s.kt.filter fun t => has p.ts t && has s'.kt t := hkt
    obtain ⟨t1, t2⟩ := List.mem_filter.1 hkt
    simp only [Bool.and_eq_true] at t2
    have hsv := (hB B hBm).1 t ht t1 v hv
    obtain ⟨v', g1, g2⟩ := skt t (has_mem t2.1) (has_mem t2.2)
    rw [hsv] at g1; cases g1
    exact look_fm _ _ t2.2 g2 _ (has_mem t2.1)
   ·have hko : o ∈ s.ko.filter fun o => has p.os o && has s'.ko o := hko
    obtain ⟨t1, t2⟩ := List.mem_filter.1 hko
    simp only [Bool.and_eq_true] at t2
    have hsb := (hB B hBm).2 o ho t1 b hb
    exact hKB.2 o (has_mem t2.1) (has_mem t2.2) b (by rw [kept_go_of (has_mem t2.1)]; exact hsb)
  refine (one_round (Good := GoodS P K x s hs bsB) ha hb hgl hal hasz hok hokR hsz0 hlp0 (by omega) (by omega) (by omega) hrc hrun hbs hF1 hF1s hGF hvs (vlen m c1) (xb := inR p s x) rfl hbs1 ?_ (fun id k' hl => ?_) (clo x.ret .ret (.inl ⟨rfl, rfl⟩))).mono fun e W5 hh => ?_
  ·exact fun hs' hp s' a' W4 S' F0' w0' ds' hd' hn' hKB hal' hst' hden' => hden'.elim
  ·obtain ⟨k0, hl0, rfl⟩ := lookE_map (fun (k : St PV → T PV) (s' : St PV) => k (stripSt p s s')) x.exits id k' hl
   exact clo k0 (.exit id) (.inr ⟨id, rfl, hl0⟩)
  ·obtain ⟨jump, sT, rfl, hgood, bs', g1, g2, g3, g4, g5, g6, g7⟩ := hh
   have hj := hgood
   obtain ⟨c, _, _, rfl, _⟩ := hj
   exact ⟨rfl, bs', g2, g3, ⟨g4, g5, F1, fun _ _ h => h, c, sT, hgood, g1⟩, g6, g7⟩
theorem fd_room {ro : Option Nat} {n : Nat} : (Fd ro).depth.isSome = true → 1 ≤ n := fun h => by cases h
theorem its_call {X : Xt} {gf : Nat} {caps : List PV} {s0 s1 : PV} (hokx : @OkX ‹Mk› { l := Gl.l, x := X } P gf (none :: caps.map some) s0 (.tup []) s1) {F : Nat → Nat → Prop} {w Wc : World} (hgl : GlOk F w) (hszw : w.heap.size ≤ Wc.heap.size) (hsm : ∀ b j, F b j → Same w Wc b j) (hFc : ∀ b o, F b o → b < Wc.heap.size) {vc : Array Value}
  (e4 : vc.size = caps.length) (r2 : ∀ (i : Nat) (u : Value) (x : PV), vc[i]? = some u → caps[i]? = some x → Rep F w u x) {bs : List Nat} (hXJ : XJ X F Wc bs s0) : Calls P gf (#[X.yv] ++ vc) Wc fun e W2 => ∃ (v : Value) (bs' : List Nat) (G' : Nat → Nat → Prop), e = .returned v ∧ X.J s1 bs' G' W2 := by
 have hargs : ∀ (i : Nat) (v : Value) (q : Option PV), (#[X.yv] ++ vc)[i]? = some v → (none :: caps.map some)[i]? = some q → match q with
   | none => v = X.yv
   | some y => Rep F Wc v y := by
  intro i v q hv hq
  cases i with
  | zero =>
   rw [Array.getElem?_append_left (by simp)] at hv
   simp at hv hq; subst hq
   exact hv.symm
  | succ i =>
   simp only [List.getElem?_cons_succ, List.getElem?_map, Option.map_eq_some_iff] at hq
   obtain ⟨y, hy, rfl⟩ := hq
   have hv : vc[i]? = some v := by
    rw [Array.getElem?_append_right (by simp)] at hv
    simpa using hv
   exact (r2 i v y hv hy).mono (fun _ _ h => h) hsm
 refine (hokx.2 F Wc (#[X.yv] ++ vc) bs hFc (hgl.mono hszw (fun _ _ h => h) hsm) (by simp [e4]; omega) hargs hXJ).mono ?_
 rintro e W2 ⟨v, F', bs', h1, _, _, _, _, _, ⟨_, _, G', _, hJe⟩, _⟩
 exact ⟨v, bs', G', h1, hJe⟩
theorem range_post {ps : Array Tmp} {assign body : Code} {S : Fx} {F0 : Nat → Nat → Prop} {w0 : World} {ds : List Deferred} {x : Ctx PV} {s : St PV} {k : St PV → T PV} {p : Plan} {a : Act} {w Wc : World} {hs : List (List PV → Prop)} {bsB : List Base} {Q : Exit → Act → World → Prop} (h : StR S F0 w0 ds s a w)
  (hd : s.dep = hs.length) (hB : ∀ B ∈ bsB, KInv B s) (hk : Cont P S F0 w0 ds K hs s.nt bsB k (Q .normal)) (he : ∀ id k', lookE x.exits id = some k' → Cont P S F0 w0 ds K hs s.nt bsB k' (Q (.exit id))) (hr : Cont P S F0 w0 ds K hs s.nt bsB x.ret (Q .ret))
  (hok : p.ok pvAlg s = true) (hobj : p.cars.all Car.isObj = true) {F : Nat → Nat → Prop} {D : Nat} (hw0 : w0.heap.size ≤ D) {fn : FuncId} {rc : LoopState → Option Code → Loop} (hrc : rc = fun st pe => { state := st, pending := pe, fn, tmps := a.tmps, params := ps, assign, body, defers := D })
  {zss : Nat → List PV} {n : Nat} {stop : Bool} (ze : stop = false → (k (afterSt pvAlg p s (zss n))).den P K hs) : ∀ (e : Ending) (W2 : World),
   (∃ (v : Value) (bs' : List Nat) (G' : Nat → Nat → Prop), e = .returned v ∧ JX S F0 w0 a.tmps p s zss n F Wc.heap.size D rc (GoodS P K x s hs bsB) (if stop then .bool true else .int .i64 n) bs' G' W2) → rangePost (Fd none) 0 P (D + 1) Q { a with defers := [mark D] ++ a.defers } e W2 := by
 have hlp0 : w0.heap.size ≤ D + 1 := by omega
 rintro _ W2 ⟨v, bs', G', rfl, hJe⟩
 -- behind the loop: a base of its own
 have rest : ∀ (sT : St PV) (st : LoopState) (jump : Option Code) (bs : List Nat) (G : Nat → Nat → Prop), st ≠ .busy → RunAt S F0 w0 a.tmps sT F Wc.heap.size (D + 1) D (.loop (rc st jump)) bs G W2 → sT.al = s.al → sT.nt = s.nt →
   ∃ W4 S' F0' w0', (Instr.endLoop (D + 1)).run P W2 = .ok jump W4 ∧ ExtB S F0 w0 ds S' F0' w0' (mark D :: ds) ∧ StR S' F0' w0' (mark D :: ds) sT { a with defers := [mark D] ++ a.defers } W4 := by
  intro sT st jump bs G hst hrun hal' hnt'
  obtain ⟨F2, ρ2, h1, h2, h3, h4⟩ := hrun.ex
  have hend : (Instr.endLoop (D + 1)).run P W2 = .ok jump (W2.putObj (D + 1) (.loop (rc .exhausted jump))) := by
   rw [run_endLoop hrun.rcd (by rw [hrc]; exact hst), hrc]
  have hn1 : ¬ Own ρ2 sT.go (D + 1) := fun h => (h2 _ h).2.1 rfl
  have hn2 : ¬ Own ρ2 sT.go D := fun h => (h2 _ h).2.2 rfl
  have h5 := h1.putObj (o2 := .loop (rc .exhausted jump)) hrun.rcd rfl rfl (.inl hlp0) hn1
  have hD5 : (W2.putObj (D + 1) (.loop (rc .exhausted jump))).heap[D]? = some (.deferred (some [])) := (World.putObj_heap_other (by omega)).trans hrun.blk
  have hDlt := (Array.getElem?_eq_some_iff.1 hD5).1
  have h6 := h5.fresh S.al (F' := F2) (fun _ _ h => h) (fun _ _ _ => Same.refl _ _ _) h5.f2 (fun k _ => ⟨rfl, fun _ h => h⟩) ⟨rfl, rfl, rfl, Nat.le_refl _, fun _ _ h => absurd trivial h⟩ (tmps' := a.tmps) (gt' := sT.gt) fun t sv ht => .inl ⟨ht, rfl⟩
  refine ⟨_, ⟨Own ρ2 sT.go, S.al, ρ2⟩, F2, _, hend, ⟨rfl, h5.kp.size, fun hr => h5.over (fun _ h => h) hr, [D], rfl, by simp, fun D' hD' => ?_, fun hr D' hD' => ?_⟩, ⟨h.gl.mono h5.kp.size h5.f0 h5.f3, hal'.trans h.al, by rw [hnt']; exact h.size, by rw [h.defers]; rfl, F2, ρ2, h6⟩⟩
  ·rw [List.mem_singleton.1 hD']
   exact ⟨by omega, hDlt⟩
  ·rw [List.mem_singleton.1 hD']
   refine ⟨(hr.kp.block D hDlt hn2).trans hD5, fun o b ho hk => ?_⟩
   rcases hr.mine o b ho D hk with h | h
   ·omega
   ·exact hn2 h
 cases hstop : stop with
 | false =>
  rw [hstop] at hJe
  obtain ⟨m, hm, _, hrun⟩ := hJe
  obtain rfl : n = m := by omega
  obtain ⟨W4, S', F0', w0', hend, hext, hst⟩ := rest _ .ready none bs' G' (by simp) hrun (by show (headGo pvAlg p.cars (zss n) 0 (kept p s)).al = _; rw [headGo_al]; rfl) (by show (headGo pvAlg p.cars (zss n) 0 (kept p s)).nt = _; rw [headGo_nt]; rfl)
  refine ⟨none, W4, hend, hk S' F0' w0' _ hext hs (List.prefix_refl _) (afterSt pvAlg p s (zss n)) _ W4 ?_ ?_ (fun B hBm => ⟨fun t ht hkt v hv => ?_, fun o ho hko b hb => ?_⟩) ⟨hst.gl, hst.al, hst.size, hst.defers, hst.ex⟩ (ze hstop)⟩
  ·show (headGo pvAlg p.cars (zss n) 0 (kept p s)).dep = _
   have : ∀ (cs : List Car) (xs : List PV) (k : Nat) (s : St PV), (headGo pvAlg cs xs k s).dep = s.dep := by
    intro cs
    induction cs with
    | nil => exact fun _ _ _ => rfl
    | cons c cs ih => intro xs k s; unfold headGo; rw [ih]; cases c <;> rfl
   rw [this]; exact hd
  ·show (headGo pvAlg p.cars (zss n) 0 (kept p s)).nt = _
   rw [headGo_nt]; rfl
  ·have hkt : t ∈ s.kt.filter (has p.ts) := hkt
   obtain ⟨t1, t2⟩ := List.mem_filter.1 hkt
   show (hdS p s (zss n)).gt t = some v
   rw [hdS_gt hobj, kept_gt_of (has_mem t2)]
   exact (hB B hBm).1 t ht t1 v hv
  ·have hko : o ∈ s.ko.filter (has p.os) := hko
   obtain ⟨t1, t2⟩ := List.mem_filter.1 hko
   show (hdS p s (zss n)).go o = some b
   rw [show (hdS p s (zss n)).go o = (kept p s).go o from headGo_go p.cars (zss n) 0 (kept p s) (ok_objs hok o (has_mem t2)).1 (ok_objs hok o (has_mem t2)).2, kept_go_of (has_mem t2)]
   exact (hB B hBm).2 o ho t1 b hb
 | true =>
  rw [hstop] at hJe
  obtain ⟨c, sT, hgood, hrun⟩ := hJe
  obtain ⟨c', kont, hs', hc', hkc, hp, hd', hn', hal', hKB, hden'⟩ := hgood
  cases hc'
  obtain ⟨W4, S', F0', w0', hend, hext, hst⟩ := rest sT .done (some c) bs' G' (by simp) hrun hal' hn'
  refine ⟨some c, W4, hend, ?_⟩
  rcases hkc with ⟨rfl, rfl⟩ | ⟨id, rfl, hl⟩
  ·exact wpIn_ret (hr S' F0' w0' _ hext hs' hp sT _ W4 hd' hn' hKB hst hden')
  ·exact wpIn_exit (he id kont hl S' F0' w0' _ hext hs' hp sT _ W4 hd' hn' hKB hst hden')
/-- a range over a function, whose call is known: 'Cl' are the blocks that the function has for its own -/
theorem range_core {ps : Array Tmp} {assign body : Code} (ha : Sound P H K assign) (hb : Sound P H K body) {S : Fx} {F0 : Nat → Nat → Prop} {w0 : World} {ds : List Deferred} {x : Ctx PV} {s : St PV} {k : St PV → T PV} {hs : List (List PV → Prop)} {bsB : List Base} {a : Act} {w : World} {Q : Exit → Act → World → Prop} {p : Plan}
  (h : StR S F0 w0 ds s a w) (hd : s.dep = hs.length) (hB : ∀ B ∈ bsB, KInv B s) (hk : Cont P S F0 w0 ds K hs s.nt bsB k (Q .normal)) (he : ∀ id k', lookE x.exits id = some k' → Cont P S F0 w0 ds K hs s.nt bsB k' (Q (.exit id))) (hr : Cont P S F0 w0 ds K hs s.nt bsB x.ret (Q .ret))
  (hok : p.ok pvAlg s = true) (hokR : p.okR s ps.toList = true) {xs : List PV} (hxs : leavesGo pvAlg s p.cars = some xs) {g : Operand} {gf : Nat} {vc : Array Value} (hgv : a.eval g = .func (.func gf) #[] vc) {fin : Bool} {l : List (List PV)} (hln : ∀ y ∈ l, y.length = ps.size)
  (hrec : iterDenF fin (fun y zs zs' => (com pvAlg P H assign (noX x) (roundSt pvAlg p s (s.dep + 1) ps.toList y zs) fun s1 => com pvAlg P H body (noX x) s1 (backK pvAlg p s)).den P K (hs ++ [fun us => us = zs']))
   (fun y zs => (com pvAlg P H assign (noX x) (roundSt pvAlg p s s.dep ps.toList y zs) fun s1 => com pvAlg P H body (inR p s x) s1 fun _ => .fail).den P K hs) (fun zs => (k (afterSt pvAlg p s zs)).den P K hs) l xs)
  {F : Nat → Nat → Prop} {ρ : Nat → Value} (hR : R S F0 w0 F ρ a.tmps w s.gt s.go) {Cl : Nat → Prop} (hCl : ∀ k, Own ρ s.go k → ¬ Cl k) (hCl0 : ∀ k, Cl k → w0.heap.size ≤ k ∨ S k) (hClw : ∀ k, Cl k → k < w.heap.size)
  (hits : ∀ X : Xt, XtC P X → ∀ x x', X.runsF fin l x = some x' → Enters P gf ∧ ∀ (Wc : World) (L : Loop) (bs : List Nat), Wc = (w.alloc (.deferred (some []))).alloc (.loop L) → (∀ b ∈ bs, ¬ Cl b) → XJ X F Wc bs x →
   Calls P gf (#[X.yv] ++ vc) Wc fun e W2 => ∃ (v : Value) (bs' : List Nat) (G' : Nat → Nat → Prop), e = .returned v ∧ X.J x' bs' G' W2) :
  (Code.rangeFunc g ps assign body).wpIn (Fd none) 0 P Q a w := by
 classical
 have hobj : p.cars.all Car.isObj = true := by
  simp only [Plan.okR, Bool.and_eq_true] at hokR
  exact hokR.1.1.1.1
 obtain ⟨zss, n, stop, z0, zc, ze, zst⟩ := iter_trace l xs hrec
 have hglw : GlOk F w := h.gl.mono hR.kp.size hR.f0 hR.f3
 have hP := okP hok
 refine wpIn_rangeFunc fun fn _ => ?_
 obtain ⟨D, hD⟩ : ∃ D, D = w.heap.size := ⟨_, rfl⟩
 obtain ⟨rc, hrc⟩ : ∃ rc : LoopState → Option Code → Loop, rc = fun st pe => { state := st, pending := pe, fn, tmps := a.tmps, params := ps, assign, body, defers := D } := ⟨_, rfl⟩
 obtain ⟨Wc, hWc⟩ : ∃ Wc, (w.alloc (.deferred (some []))).alloc (.loop (rc .ready none)) = Wc := ⟨_, rfl⟩
 have hszc : Wc.heap.size = w.heap.size + 2 := by rw [← hWc]; simp
 have hLc : Wc.heap[D + 1]? = some (.loop (rc .ready none)) := by
  rw [← hWc, hD]; have := World.alloc_heap_new (w.alloc (.deferred (some []))) (.loop (rc .ready none)); rwa [World.size_alloc] at this
 have hDc : Wc.heap[D]? = some (.deferred (some [])) := by
  rw [← hWc, hD]; exact (alloc_old _ _ _ (by simp)).trans (World.alloc_heap_new w _)
 have hRc0 : R S F0 w0 F ρ a.tmps Wc s.gt s.go := by rw [← hWc]; exact (hR.alloc _).alloc _
 have hw0 := hR.kp.size
 -- at the loop's head
 have hhd : ∃ ρ', R S F0 w0 F ρ' a.tmps Wc (hdS p s xs).gt (hdS p s xs).go ∧ (∀ k, Own ρ' (hdS p s xs).go k → k < w.heap.size ∧ ¬ Cl k) := by
  have hRf : R ⟨Own ρ s.go, S.al, ρ⟩ F w F ρ a.tmps w s.gt s.go := hR.fresh S.al (fun _ _ h => h) (fun _ _ _ => Same.refl _ _ _) hR.f2 (fun k _ => ⟨rfl, fun _ h => h⟩) ⟨rfl, rfl, rfl, Nat.le_refl _, fun _ _ h => absurd trivial h⟩ fun t sv ht => .inl ⟨ht, rfl⟩
  have h' : StR ⟨Own ρ s.go, S.al, ρ⟩ F w ds s a w := ⟨hglw, h.al, h.size, h.defers, F, ρ, hRf⟩
  obtain ⟨_, ρ2, hR2⟩ := enters_F (base := kept p s) h' hRf hok hxs rfl rfl ⟨fun t v hv => (kept_gt hv).2, fun o b hb => (kept_go hb).2⟩ (fun t v hv => (kept_gt hv).1) (fun o b hb => (kept_go hb).1)
  have hR3 : R S F0 w0 F ρ2 a.tmps w (hdS p s xs).gt (hdS p s xs).go := hR.over (fun _ h => h) hR2
  refine ⟨ρ2, by rw [← hWc]; exact (hR3.alloc _).alloc _, fun k hk => ⟨hR2.own_lt hk, ?_⟩⟩
  have hlt := hR2.own_lt hk
  obtain ⟨o, b, g1, g2⟩ := hk
  rcases hR2.mine o b g1 k g2 with h | h
  ·omega
  ·exact hCl k h
 obtain ⟨ρc, hRc, hownc⟩ := hhd
 have hnst : stop = true → n < l.length := fun hs => by
  obtain ⟨y, hy, _⟩ := zst hs
  exact (List.getElem?_eq_some_iff.1 hy).1
 have hAL : ∀ t sv, (kept p s).gt t = some sv → ∀ o ∈ svRefs sv, o ∈ s.al ++ (p.os ++ p.cars.flatMap Car.stay) := by
  intro t sv ht o ho
  obtain ⟨h1, h2⟩ := kept_gt ht
  exact List.mem_append.2 (.inr (List.mem_append.2 (hP.ts t h1 sv h2 o ho)))
 have hkgt : ∀ t ∈ p.ts, ∃ v, s.gt t = some v := by
  intro t ht
  simp only [Plan.ok, Bool.and_eq_true, List.all_eq_true] at hok
  have := hok.1.2 t ht
  cases hg : s.gt t with
  | none => rw [hg] at this; cases this
  | some v => exact ⟨v, rfl⟩
 have hsz0 : w0.heap.size ≤ Wc.heap.size := by omega
 have hlp0 : w0.heap.size ≤ D + 1 := by omega
 have hXC := range_xtc (bsB := bsB) (zss := zss) (n := n) (stop := stop) (D := D) (sz := Wc.heap.size) (F := F) ha hb h.gl h.al h.size hd hB hok hokR hobj hsz0 hlp0 (by omega) hrc hln zc zst hAL hkgt
 -- the call of the iterator
 have hruns : (mkX (S := S) (F0 := F0) a.tmps p s zss n F rc (GoodS P K x s hs bsB) l stop hsz0 (show D + 1 < Wc.heap.size by omega)).runsF fin l (.int .i64 0) = some (if stop then .bool true else .int .i64 n) := by
  have := runsF_trace (fin := fin) (X := mkX (S := S) (F0 := F0) a.tmps p s zss n F rc (GoodS P K x s hs bsB) l stop hsz0 (show D + 1 < Wc.heap.size by omega)) rfl (fun hs => ⟨(ze hs).1, (ze hs).2.1⟩) hnst n 0 (by omega)
  simpa using this
 obtain ⟨bs0, hbs0⟩ : ∃ bs0, bs0 = (List.range Wc.heap.size).filter fun k => decide (¬ Cl k) := ⟨_, rfl⟩
 have hmb : ∀ k, k ∈ bs0 ↔ k < Wc.heap.size ∧ ¬ Cl k := fun k => by
  rw [hbs0, List.mem_filter, List.mem_range, decide_eq_true_eq]
 have hJ0 : RunAt S F0 w0 a.tmps (hdS p s (zss 0)) F Wc.heap.size (D + 1) D (.loop (rc .ready none)) bs0 (fun b j => F b j ∧ Cl b) Wc := by
  rw [z0]
  refine ⟨⟨F, ρc, hRc, fun k hk => ?_, fun b j hf => ?_, fun _ _ h => h⟩, ⟨fun k hk => ?_, (hmb _).2 ⟨by omega, fun hc => ?_⟩, (hmb _).2 ⟨by omega, fun hc => ?_⟩⟩, hLc, hDc⟩
  ·have := (hownc k hk).1
   exact ⟨(hmb k).2 ⟨by omega, (hownc k hk).2⟩, by omega, by omega⟩
  ·by_cases hc : Cl b
   ·exact .inr ⟨hf, hc⟩
   ·exact .inl ((hmb b).2 ⟨hRc.f2 b j hf, hc⟩)
  ·by_cases hc : Cl k
   ·rcases hCl0 k hc with h1 | h1
    ·omega
    ·exact .inr h1
   ·exact .inl ((hmb k).2 ⟨by omega, hc⟩)
  ·have := hClw _ hc; omega
  ·have := hClw _ hc; omega
 obtain ⟨eg, hits⟩ := hits _ hXC _ _ hruns
 have hcall := hits Wc (rc .ready none) bs0 hWc.symm (fun b hb => ((hmb b).1 hb).2) ⟨fun b hb => ((hmb b).1 hb).1, fun _ _ _ hf => hf, fun b j => F b j ∧ Cl b, fun _ _ h => h.1, 0, rfl, by omega, hJ0⟩
 have hpost := range_post (bsB := bsB) (Wc := Wc) (zss := zss) (n := n) (stop := stop) (F := F) h hd hB hk he hr hok hobj (by omega : w0.heap.size ≤ D) hrc fun hs => (ze hs).2.2
 have hfin : CallsIn (Fd none) (0 - 1) P gf (#[.func (.yield (D + 1)) #[] #[]] ++ vc) Wc (rangePost (Fd none) 0 P (D + 1) Q { a with defers := [mark D] ++ a.defers }) := callsIn_fd (hcall.mono hpost)
 refine ⟨D + 1, [mark D], Wc, { target := .fn (.func gf) vc, args := #[.func (.yield (D + 1)) #[] #[]] }, Wc, gf, #[.func (.yield (D + 1)) #[] #[]] ++ vc, Wc, ?_, ?_, fun _ _ => trivial, ?_, fd_room, ?_⟩
 ·rw [← hWc, hrc, hD]; exact run_enterLoop_outer _ _ _ _ _
 ·simp only [resolve, hgv]
  simp [go_sem]
 ·simp only [Enters] at eg
  simp [invoke, go_sem, eg]
 ·exact hfin
theorem runs_runsF {X : Xt} : ∀ (l : List (List PV)) (x : PV), X.runsF true l x = X.runs l x
 | [], x => rfl
 | y :: l, x => by
  simp only [Xt.runsF, Xt.runs]
  split <;> first | exact runs_runsF l _ | rfl
/-! what names no party is told alike whoever the party is -/
theorem repA_swap {l : List (Nat × PV × Nat × Bool)} {X Y : Xt} {F : Nat → Nat → Prop} {ρ : Nat → Value} {w : World} {v : Value} {a : A PV} (ha : aNoX a = true) (h : @RepA ‹Mk› { l := l, x := X } F ρ w v a) : @RepA ‹Mk› { l := l, x := Y } F ρ w v a := by
 cases a <;> first | exact h | cases ha
theorem repS_swap {l : List (Nat × PV × Nat × Bool)} {X Y : Xt} {F : Nat → Nat → Prop} {ρ : Nat → Value} {w : World} {v : Value} {a : SV PV} (ha : svNoX a = true) (h : @RepS ‹Mk› { l := l, x := X } F ρ w v a) : @RepS ‹Mk› { l := l, x := Y } F ρ w v a := by
 cases a with
 | «at» a => exact repA_swap ha h
 | agg l =>
  obtain ⟨cs, h1, h2, h3⟩ := h
  exact ⟨cs, h1, h2, fun i c x hc hx => ⟨repA_swap (List.all_eq_true.1 ha x (List.mem_of_getElem? hx)) (h3 i c x hc hx).1, (h3 i c x hc hx).2⟩⟩
theorem repO_swap {l : List (Nat × PV × Nat × Bool)} {X Y : Xt} {F : Nat → Nat → Prop} {ρ : Nat → Value} {w : World} {o : Nat} {b : Ob PV} (hb : obNoX b = true) (h : @RepO ‹Mk› { l := l, x := X } F ρ w o b) : @RepO ‹Mk› { l := l, x := Y } F ρ w o b := by
 cases b with
 | cells fz n ag cs =>
  cases cs with
  | wh x => exact h
  | pts l =>
   obtain ⟨b, c, ty, h1, h2, h3, h4, h5⟩ := h
   obtain ⟨g1, g2, g3⟩ := h4
   exact ⟨b, c, ty, h1, h2, h3, ⟨g1, g2, fun i u a hu ha => ⟨repA_swap (List.all_eq_true.1 hb a (List.mem_of_getElem? ha)) (g3 i u a hu ha).1, (g3 i u a hu ha).2⟩⟩, h5⟩
 | arr fz ty sz ag x => exact h
 | map fz x => exact h
 | ext x => cases hb
theorem aNoX_map {β γ : Type} (f : β → γ) (m : Nat → Nat) (a : A β) : aNoX (a.map f m) = aNoX a := by cases a <;> rfl
theorem svNoX_map {β γ : Type} (f : β → γ) (m : Nat → Nat) (a : SV β) : svNoX (a.map f m) = svNoX a := by
 cases a with
 | «at» a => exact aNoX_map f m a
 | agg l =>
  show (l.map fun a => a.map f m).all aNoX = l.all aNoX
  rw [List.all_map]
  congr 1
  funext a
  exact aNoX_map f m a
theorem obNoX_map {β γ : Type} (f : β → γ) (m : Nat → Nat) (b : Ob β) : obNoX (b.map' f m) = obNoX b := by
 cases b with
 | cells fz n ag cs =>
  cases cs with
  | wh x => rfl
  | pts l =>
   show (l.map fun a => a.map f m).all aNoX = l.all aNoX
   rw [List.all_map]
   congr 1
   funext a
   exact aNoX_map f m a
 | arr fz ty sz ag x => rfl
 | map fz x => rfl
 | ext x => rfl
/-- the call of a closure that has cells of its own, bound to what is there -/
theorem clo_call {S : Fx} {F0 : Nat → Nat → Prop} {w0 : World} {F : Nat → Nat → Prop} {ρ : Nat → Value} {tmps : Array Value} {w : World} {s s1 : St PV} {g : Operand} {gf : Nat} {sg : Sig} {ins : List PV} (hR : R S F0 w0 F ρ tmps w s.gt s.go) (hc : rangeClo pvAlg H s g = some (gf, sg, ins, s1)) :
  ∃ c, opv pvAlg s g = some (.at (.clo gf [] c)) ∧ (∀ t v, s1.gt t = some v → s.gt t = some v) ∧ (∀ o b, s1.go o = some b → s.go o = some b) ∧ s1.dep = s.dep ∧ s1.nt = s.nt ∧ s1.al = s.al ∧ s1.kt = s.kt ∧ (∀ o ∈ s1.ko, o ∈ s.ko ∧ s1.go o = s.go o) ∧
   ∃ Cl : Nat → Prop, (∀ k, Own ρ s1.go k → ¬ Cl k) ∧ (∀ k, Cl k → Own ρ s.go k) ∧ ∀ (P : Program) (X : Xt) (x r x' : PV), @OkXS ‹Mk› { l := Gl.l, x := X } P gf sg ins x r x' → ∀ (Wc : World) (vc : Array Value) (bs : List Nat), GlOk F Wc → R S F0 w0 F ρ tmps Wc s.gt s.go →
    RepPs ρ vc c → (∀ b ∈ bs, ¬ Cl b) → XJ X F Wc bs x → Calls P gf (#[X.yv] ++ vc) Wc fun e W2 => ∃ (v : Value) (bs' : List Nat) (G' : Nat → Nat → Prop), e = .returned v ∧ X.J x' bs' G' W2 := by
 unfold rangeClo at hc
 split at hc
 rotate_left
 ·cases hc
 rename_i gf' c hop
 split at hc
 rotate_left
 ·cases hc
 rename_i sg0 hsg
 simp only [Option.bind_eq_bind, Option.bind_eq_some_iff] at hc
 obtain ⟨b1, hb1, b, hb2, xs, hxs, hc⟩ := hc
 split at hc
 rotate_left
 ·cases hc
 rename_i hcond
 simp only [Bool.and_eq_true] at hcond
 obtain ⟨⟨⟨⟨c1, c2⟩, c3⟩, c6⟩, x1, x2⟩ := hcond
 simp only [Option.some.injEq, Prod.mk.injEq] at hc
 obtain ⟨rfl, rfl, rfl, rfl⟩ := hc
 have n1 := seqL_nd c1
 have n2 := seqL_nd c2
 have n3 := seqL_nd c3
 have hgo1 : ∀ o b', look (b.ids.map (fun p => (p.2, (none : Option (Ob PV)))) ++ s.ob) o = some b' → o ∉ b.ids.map (·.2) ∧ s.go o = some b' := by
  intro o b' ho
  rw [look_append] at ho
  split at ho
  ·have := look_some _ _ _ ho
   obtain ⟨p, hp, e⟩ := List.mem_map.1 this
   simp at e
  ·rename_i hn
   rw [List.map_map] at hn
   exact ⟨hn, ho⟩
 refine ⟨c, hop, fun t v hv => hv, fun o b' ho => (hgo1 o b' ho).2, rfl, rfl, rfl, rfl, fun o ho => ?_, fun k => ∃ o u q, lookE b.ids o = some u ∧ s.go u = some q ∧ HB (ρ u) k, fun k hk hcl => ?_, fun k hcl => ?_, fun P X x r x' hok Wc vc bs hgl hRc hvc hbs hXJ => ?_⟩
 ·obtain ⟨h1, h2⟩ := List.mem_filter.1 ho
  refine ⟨h1, ?_⟩
  have h3 : o ∉ b.ids.map (·.2) := fun hm => by
   have := has_of_mem hm
   rw [this] at h2; cases h2
  show look (b.ids.map (fun p => (p.2, (none : Option (Ob PV)))) ++ s.ob) o = look s.ob o
  rw [look_append, if_neg]
  rw [List.map_map]; exact h3
 ·obtain ⟨u, q, h1, h2⟩ := hk
  obtain ⟨h3, h4⟩ := hgo1 u q h1
  obtain ⟨o, u', q', e1, e2, e3⟩ := hcl
  have hne : u ≠ u' := fun e => h3 (e ▸ List.mem_map.2 ⟨_, lookE_in _ _ _ e1, rfl⟩)
  exact hR.ob.sep u u' q q' h4 e2 hne k h2 e3
 ·obtain ⟨o, u, q, _, e2, e3⟩ := hcl
  exact ⟨u, q, e2, e3⟩
 ·have ho : ObsR F ρ Wc s.go := hRc.ob
  obtain ⟨l1, l2, l3⟩ := bind_svs ho hb1
  obtain ⟨l4, l5⟩ := bind_obs ho hb2
  let ρs : Nat → Value := fun o => match lookE b.ids o with
   | some u => ρ u
   | none => undef
  have hfull : Full b xs ρ ρs := by
   refine ⟨fun i x hi => ?_, fun o u hu => by simp only [ρs, hu]⟩
   obtain ⟨m1, m2⟩ := mapM_some hxs
   have hlen : i < b.lv.length := by
    have hmem : ∀ j, j < b.lv.length → j ∈ b.lv.map (·.1) := by
     intro j hj
     have hx' : xs[j]? = some (xs[j]'(by simp at m1; omega)) := List.getElem?_eq_getElem _
     have := m2 j j _ (by simp [hj]) hx'
     exact List.mem_map.2 ⟨_, lookE_in _ _ _ this, rfl⟩
    have hi' : i ∈ b.lv.map (·.1) := List.mem_map.2 ⟨_, lookE_in _ _ _ hi, rfl⟩
    rcases Nat.lt_or_ge i b.lv.length with hlt | hge
    ·exact hlt
    ·exfalso
     have hsub : (i :: List.range b.lv.length).Nodup := List.nodup_cons.2 ⟨by simp; omega, List.nodup_range⟩
     have := hsub.length_le_of_subset (l₂ := b.lv.map (·.1)) (fun j hj => by
      rcases List.mem_cons.1 hj with rfl | hj
      ·exact hi'
      ·exact hmem j (by simpa using hj))
     simp at this
     omega
   have hx' : xs[i]? = some (xs[i]'(by simp at m1; omega)) := List.getElem?_eq_getElem _
   have := m2 i i _ (by simp [hlen]) hx'
   rw [hi] at this
   simp only [instL, List.getD_eq_getElem?_getD, hx', Option.getD_some]
   exact (Option.some.inj this).symm
  have hbound : ∀ o p, (o, p) ∈ sg0.obs → ∃ u q, lookE b.ids o = some u ∧ s.go u = some q ∧ ρs o = ρ u ∧ RepO F ρs Wc o (p.map' (instL xs) id) := by
   intro o p hp
   obtain ⟨u, q, g1, g2, g3⟩ := l5 b xs ρs (BLe.refl _) hfull o p hp
   exact ⟨u, q, g1, g2, hfull.id o u g1, g3⟩
  have mem : ∀ o b', lookO (sg0.obsI xs) o = some b' → ∃ p, (o, p) ∈ sg0.obs ∧ b' = p.map' (instL xs) id := by
   intro o b' hb'
   have := lookO_some hb'
   simp only [Sig.obsI, List.mem_map] at this
   obtain ⟨q, hq, e⟩ := this
   simp at e; obtain ⟨rfl, rfl⟩ := e
   exact ⟨q.2, hq, rfl⟩
  have hobs : ObsR F ρs Wc (lookO (sg0.obsI xs)) := by
   refine ⟨fun o b' hb' => ?_, fun o o' b1 b2 h1 h2 hne k hk hk' => ?_⟩
   ·obtain ⟨p, hp, rfl⟩ := mem o b' hb'
    obtain ⟨_, _, _, _, _, g⟩ := hbound o p hp
    exact g
   ·obtain ⟨p1, hp1, rfl⟩ := mem o b1 h1
    obtain ⟨p2, hp2, rfl⟩ := mem o' b2 h2
    obtain ⟨u1, q1, e1, e3, e4, _⟩ := hbound o p1 hp1
    obtain ⟨u2, q2, f1, f3, f4, _⟩ := hbound o' p2 hp2
    have hu : u1 ≠ u2 := fun e => hne (by
     have := nodup_val n2 (lookE_in _ _ _ e1) (lookE_in _ _ _ f1) e
     simpa using congrArg Prod.fst this)
    rw [e4] at hk; rw [f4] at hk'
    exact ho.sep u1 u2 q1 q2 e3 f3 hu k hk hk'
  have hvl : vc.size = sg0.args.length := by rw [hvc.1, l2, List.length_map]
  have hobs' : @ObsR ‹Mk› { l := Gl.l, x := X } F ρs Wc (lookO (sg0.obsI xs)) := by
   refine @ObsR.mk ‹Mk› { l := Gl.l, x := X } _ _ _ _ (fun o b' hb' => ?_) hobs.sep
   obtain ⟨p, hp, rfl⟩ := mem o b' hb'
   refine repO_swap (l := Gl.l) (X := Gl.x) (Y := X) ?_ (hobs.rep o _ hb')
   rw [obNoX_map]
   exact List.all_eq_true.1 x2 _ hp
  refine (hok.2 F Wc (#[X.yv] ++ vc) ρs bs hRc.f2 hgl (by rw [Array.size_append, hvl]; exact Nat.add_comm _ _) (by rw [Array.getElem?_append_left (by simp)]; rfl) (fun i v y hv hy => ?_) hobs' hXJ fun k hk hbk => hbs k hk ?_).mono ?_
  ·simp only [Sig.argsI, List.getElem?_map, Option.map_eq_some_iff] at hy
   obtain ⟨y, hy, rfl⟩ := hy
   have hv : vc[i]? = some v := by
    rw [Array.getElem?_append_right (by simp)] at hv
    simpa using hv
   have hil : i < c.length := by rw [← hvc.1]; exact (Array.getElem?_eq_some_iff.1 hv).1
   refine repS_swap (l := Gl.l) (X := Gl.x) (Y := X) (by rw [svNoX_map]; exact List.all_eq_true.1 x1 y (List.mem_of_getElem? hy)) (l3 b xs ρs l4 hfull i y (.at (.ptr (c[i]).1 (c[i]).2)) v hy (by simp [hil]) ?_)
   exact hvc.2 i v c[i] hv (List.getElem?_eq_getElem hil)
  ·obtain ⟨p, hp, hk'⟩ := hbk
   simp only [Sig.obsI, List.mem_map] at hp
   obtain ⟨p0, hp0, rfl⟩ := hp
   obtain ⟨u, q, e1, e3, e4, _⟩ := hbound p0.1 p0.2 hp0
   exact ⟨p0.1, u, q, e1, e3, by rw [← e4]; exact hk'⟩
  ·rintro e W2 ⟨v, F', bs', h1, _, _, _, _, _, ⟨_, _, G', _, hJe⟩⟩
   exact ⟨v, bs', G', h1, hJe⟩
theorem range_sound (hE : ∀ P : Program, Enters' P) (g : Operand) (ps : Array Tmp) (assign body : Code) (ha : Sound P H K assign) (hb : Sound P H K body) : Sound P H K (.rangeFunc g ps assign body) := by
 intro ro S F0 w0 ds x s k hs bsB a w Q hx hd hB h hden hk he hr
 simp only [com] at hden
 split at hden
 ·-- a closure with cells of its own
  rename_i gf sg ins s1 hxr hclo
  generalize guess pvAlg P H s1 body = p at hden
  split at hden
  rotate_left
  ·cases hden
  rename_i xs hxs
  split at hden
  rotate_left
  ·cases hden
  rename_i hcond
  simp only [Bool.and_eq_true] at hcond
  obtain ⟨hok, hokR⟩ := hcond
  have hro : ro = none := hx hxr
  subst hro
  obtain ⟨fin, l, hits, hln, hrec⟩ := hden
  obtain ⟨F, ρ, hR⟩ := h.ex
  obtain ⟨c, hop, e1, e2, e3, e4, e5, e6, e7, Cl, hC1, hC2, hcall⟩ := clo_call (H := H) hR hclo
  have hglw : GlOk F w := h.gl.mono hR.kp.size hR.f0 hR.f3
  have hrg := opv_rep hglw hR.tm hop
  obtain ⟨va, vc, hgv, hva, hvc⟩ := hrg
  have hva0 : va = #[] := by
   have := hva.1
   simpa using this
  subst hva0
  have hR1 : R S F0 w0 F ρ a.tmps w s1.gt s1.go := hR.sub e1 e2
  have h1 : StR S F0 w0 ds s1 a w := ⟨h.gl, e5.trans h.al, by rw [e4]; exact h.size, h.defers, F, ρ, hR1⟩
  have hB1 : ∀ B ∈ bsB, KInv B s1 := fun B hBm => ⟨fun t ht hkt v hv => by
    have hgt : s1.gt t = s.gt t := by
     have hx0 := hclo
     unfold rangeClo at hx0
     split at hx0
     ·split at hx0
      ·simp only [Option.bind_eq_bind, Option.bind_eq_some_iff] at hx0
       obtain ⟨_, _, _, _, _, _, hx0⟩ := hx0
       split at hx0
       ·simp only [Option.some.injEq, Prod.mk.injEq] at hx0
        obtain ⟨_, _, _, rfl⟩ := hx0
        rfl
       ·cases hx0
      ·cases hx0
     ·cases hx0
    rw [hgt]
    exact (hB B hBm).1 t ht (by rw [← e6]; exact hkt) v hv, fun o ho hko b hb' => by
    obtain ⟨g1, g2⟩ := e7 o hko
    rw [g2]
    exact (hB B hBm).2 o ho g1 b hb'⟩
  have conv : ∀ (l : List (List PV)) (zs : List PV) (bC : List PV → List PV → List PV → Prop) (bS : List PV → List PV → Prop) (aft : List PV → Prop), (List.rec (motive := fun _ => List PV → Prop) (fun zs => fin = true ∧ aft zs) (fun y _ ih zs => (∃ zs', bC y zs zs' ∧ ih zs') ∨ bS y zs) l : List PV → Prop) zs → iterDenF fin bC bS aft l zs := by
   intro l
   induction l with
   | nil => exact fun zs _ _ _ h => h
   | cons y l ih => exact fun zs _ _ _ h => h.imp (fun ⟨zs', h1, h2⟩ => ⟨zs', h1, ih zs' _ _ _ h2⟩) id
  refine range_core (p := p) ha hb h1 (e3.trans hd) hB1 (by rw [e4]; exact hk) (by rw [e4]; exact he) (by rw [e4]; exact hr) hok hokR hxs hgv hln (conv l xs _ _ _ hrec) hR1 hC1 (fun k hk => ?_) (fun k hk => hR.own_lt (hC2 k hk)) fun X hX x0 x' hrun => ⟨(hits X hX x0 x' hrun).1, fun Wc L bs hWc hbs hXJ => ?_⟩
  ·obtain ⟨o, b, g1, g2⟩ := hC2 k hk
   exact hR.mine o b g1 k g2
  ·have hRc : R S F0 w0 F ρ a.tmps Wc s.gt s.go := by rw [hWc]; exact (hR.alloc _).alloc _
   exact hcall P X x0 (.tup []) x' (hits X hX x0 x' hrun) Wc vc bs (h.gl.mono hRc.kp.size hRc.f0 hRc.f3) hRc hvc hbs hXJ
 ·split at hden
  rotate_left
  ·cases hden
  rename_i it hxr hit
  generalize guess pvAlg P H s body = p at hden
  split at hden
  rotate_left
  ·cases hden
  rename_i xs hxs
  split at hden
  rotate_left
  ·cases hden
  rename_i hcond
  simp only [Bool.and_eq_true] at hcond
  obtain ⟨hok, hokR⟩ := hcond
  have hro : ro = none := hx hxr
  subst hro
  obtain ⟨l, ⟨gf, caps, rfl, hits⟩, hln, hrec⟩ := hden
  obtain ⟨F, ρ, hR⟩ := h.ex
  have hglw : GlOk F w := h.gl.mono hR.kp.size hR.f0 hR.f3
  obtain ⟨sv, hsv, hasE⟩ := Option.bind_eq_some_iff.1 hit
  have hrg := asE_rep hR.ob (opv_rep hglw hR.tm hsv) hasE
  generalize hgv : a.eval g = gv at hrg
  cases hrg with
  | fn _ va vc _ _ e3 e4 r1 r2 =>
  obtain rfl : va = #[] := by simpa using e3
  have conv : ∀ (l : List (List PV)) (zs : List PV) (bC : List PV → List PV → List PV → Prop) (bS : List PV → List PV → Prop) (aft : List PV → Prop), (List.rec (motive := fun _ => List PV → Prop) (fun zs => aft zs) (fun y _ ih zs => (∃ zs', bC y zs zs' ∧ ih zs') ∨ bS y zs) l : List PV → Prop) zs → iterDenF true bC bS aft l zs := by
   intro l
   induction l with
   | nil => exact fun zs _ _ _ h => ⟨rfl, h⟩
   | cons y l ih => exact fun zs _ _ _ h => h.imp (fun ⟨zs', h1, h2⟩ => ⟨zs', h1, ih zs' _ _ _ h2⟩) id
  refine range_core (p := p) (Cl := fun _ => False) ha hb h hd hB hk he hr hok hokR hxs hgv hln (conv l xs _ _ _ hrec) hR (fun _ _ h => h) (fun _ h => h.elim) (fun _ h => h.elim) fun X hX x0 x' hrun => ?_
  ·rw [runs_runsF] at hrun
   refine ⟨(hits X hX x0 x' hrun).1, fun Wc L bs hWc hbs hXJ => ?_⟩
   have hRc : R S F0 w0 F ρ a.tmps Wc s.gt s.go := by rw [hWc]; exact (hR.alloc _).alloc _
   have hsm : ∀ b j, F b j → Same w Wc b j := fun b j hf => by
    rw [hWc]
    exact (Same.of_block (alloc_old w _ b (hR.f2 b j hf)) j).trans (Same.of_block (alloc_old _ _ b (by have := hR.f2 b j hf; simp; omega)) j)
   exact its_call (hits X hX x0 x' hrun) hglw (by rw [hWc]; simp; omega) hsm hRc.f2 e4 r2 hXJ
end
end Go.Lf
/- A function's body does what its text says. -/
namespace Go.Lf
variable [Mk] [Gl]
open Go.RowKit
section
variable {ro : Option Nat} {P : Program} [XC P] {H : Hint} {S : Fx} {F0 : Nat → Nat → Prop} {w0 : World} {ds : List Deferred} {w : World} {a : Act} {s : St PV}
/-- a result as it stands, and its run -/
theorem resS_run {F : Nat → Nat → Prop} {ρ : Nat → Value} {tmps : Array Value} (h : R S F0 w0 F ρ tmps w s.gt s.go) {r : ResultVar} {sv : SV PV} (hr : resS pvAlg P s r = some sv) :
  ∃ v, (match r with
   | .tmp t => pure (tmps.getD t undef)
   | .cell a t => do loadVar t (← asAddr (tmps.getD a undef)) : Sem Value).run P w = .ok v w ∧ RepS F ρ w v sv := by
 cases r with
 | tmp t =>
  obtain ⟨v, hv, hrep⟩ := h.tm t sv hr
  exact ⟨v, by simp [hv], hrep⟩
 | cell t ty =>
  simp only [resS] at hr
  split at hr
  ·rename_i o off m g hgt hm hg
   split at hr
   ·rename_i fz n ag cs hgo
    obtain ⟨v, hv, b, h1, h2⟩ := h.tm t _ hgt
    obtain ⟨b', c, ty0, g1, g2, g3, g4, g5⟩ := h.ob.rep o _ hgo
    rw [g1] at h1
    simp at h1; subst h1
    have e1 : tmps.getD t undef = .pointer (some ⟨b', off, none⟩) := by simp [hv, h2]
    have hc : ∀ j, j < n → w.cell? ⟨b', 0 + j, none⟩ = c[j]? := fun j hj => by
     rw [Nat.zero_add]
     have hjc : j < c.size := by omega
     simp [World.cell?, g2, hjc]
    obtain ⟨h1, h2⟩ := loadCs_rep g3 g4 hr
    have hle : off + m ≤ n := by
     cases g with
     | true => exact (h1 rfl).1
     | false =>
      obtain ⟨e, u, hu, _⟩ := h2 rfl
      have := (Array.getElem?_eq_some_iff.1 hu).1
      omega
    have hrun := run_load_place (P := P) (w := w) (b := b') (base := 0) (off := off) (t := ty) hc g3 hm hg hle (fun e => (h2 e).1)
    rw [Nat.zero_add] at hrun
    refine ⟨_, by simpa only [e1, Instr.loadAt, Instr.sureAddr, asAddr] using hrun, ?_⟩
    cases g with
    | true => exact (h1 rfl).2
    | false =>
     obtain ⟨_, u, hu, hr⟩ := h2 rfl
     simp only [Bool.false_eq_true, if_false, hu, Option.getD_some]
     exact hr
   ·cases hr
  ·cases hr
theorem runs_of {β : Type} (f : β → Sem Value) (G : Value → SV PV → Prop) (g : β → Option (SV PV)) : ∀ {l : List β} {svs : List (SV PV)}, l.mapM g = some svs → (∀ r sv, g r = some sv → ∃ v, (f r).run P w = .ok v w ∧ G v sv) →
  ∃ vs : List Value, (l.mapM f).run P w = .ok vs w ∧ vs.length = svs.length ∧ ∀ (i : Nat) (v : Value) (sv : SV PV), vs[i]? = some v → svs[i]? = some sv → G v sv
 | [], svs, h, _ => by simp at h; subst h; exact ⟨[], by simp, rfl, fun i v sv h => by simp at h⟩
 | r :: l, svs, h, hf => by
  rw [List.mapM_cons] at h
  cases hg : g r with
  | none => rw [hg] at h; simp at h
  | some b =>
   rw [hg] at h
   cases hl : l.mapM g with
   | none => rw [hl] at h; simp at h
   | some bs =>
    rw [hl] at h
    simp at h; subst h
    obtain ⟨v, hv, hG⟩ := hf r b hg
    obtain ⟨vs, h1, h2, h3⟩ := runs_of f G g hl hf
    refine ⟨v :: vs, by simp [List.mapM_cons, hv, h1], by simp [h2], fun i u sv hu hs => ?_⟩
    cases i with
    | zero => simp at hu hs; subst hu; subst hs; exact hG
    | succ i => simp at hu hs; exact h3 i u sv hu hs
omit [XC P] in
theorem frs_ext {x : PV} : ∀ (p : List Nat) (c : St PV), c.go 9999 = some (.ext x) → (p.foldl (St.fr pvAlg) c).go 9999 = some (.ext x)
 | [], _, h => h
 | o :: p, c, h => by
  rw [List.foldl_cons]
  refine frs_ext p _ ?_
  rcases fr_eq c o with e | ⟨b, b', h1, h2, e⟩
  ·rw [e]; exact h
  ·rw [e]
   by_cases he : o = 9999
   ·subst he
    rw [h] at h1; cases h1
    cases h2
   ·show look ((o, some b') :: c.ob) 9999 = _
    rw [look_cons, if_neg he]; exact h
theorem ret_sound {fn : Func} {K : PV → Prop} {hs : List (List PV → Prop)} (h : StR S F0 w0 ds s a w) (hden : (comRet pvAlg P fn s).den P K hs) :
  ∃ v F' ρ, ∃ (s2 : St PV), ∃ r, (results fn a.tmps).run P w = .ok v w ∧ R S F0 w0 F' ρ a.tmps w s2.gt s2.go ∧ (∀ x, s.go 9999 = some (.ext x) → s2.go 9999 = some (.ext x)) ∧ Rep F' w v r ∧ K r := by
 obtain ⟨F, ρ, hr⟩ := h.ex
 unfold comRet at hden
 split at hden
 ·rename_i l hl
  obtain ⟨vs, h1, h2, h3⟩ := runs_of (P := P) (w := w) (fun r => (match r with
   | .tmp t => pure (a.tmps.getD t undef)
   | .cell b t => do loadVar t (← asAddr (a.tmps.getD b undef)) : Sem Value)) (fun v sv => RepS F ρ w v sv) (resS pvAlg P s) hl (fun r sv hr' => resS_run hr hr')
  obtain ⟨⟨F', hFF, h4⟩, h5⟩ := hr.upd (c := s) ⟨fun _ _ h => h, fun _ _ h => h⟩ (l.flatMap svRefs)
  have h6 := h4.sub h5.1 h5.2
  have hrun : (results fn a.tmps).run P w = .ok (if h : vs.toArray.size = 1 then vs.toArray[0] else .tuple vs.toArray) w := by
   have e : (results fn a.tmps) = (fn.results.mapM (fun r => (match r with
    | .tmp t => pure (a.tmps.getD t undef)
    | .cell b t => do loadVar t (← asAddr (a.tmps.getD b undef)) : Sem Value))) >>= fun vs => pure (if h : vs.size = 1 then vs[0] else .tuple vs) := rfl
   rw [e, Array.mapM_eq_mapM_toList]
   simp only [Sem.run_bind, map_eq_pure_bind, h1, Result.andThen_ok, Sem.run_pure]
  have hreps : ∀ xs, l.mapM (asE pvAlg ((l.flatMap svRefs).foldl (St.fr pvAlg) s)) = some xs → xs.length = l.length ∧ ∀ (i : Nat) (v : Value) (x : PV), vs[i]? = some v → xs[i]? = some x → Rep F' w v x := by
   intro xs hxs
   obtain ⟨m1, m2⟩ := mapM_some hxs
   refine ⟨m1, fun i v x hv hx => ?_⟩
   have hil : i < l.length := by rw [← m1]; exact (List.getElem?_eq_some_iff.1 hx).1
   have hl' : l[i]? = some (l[i]'hil) := List.getElem?_eq_getElem hil
   have := (h3 i v _ hv hl').mono (F' := F') (ρ' := ρ) (w' := w) hFF (fun _ _ _ => Same.refl _ _ _) (fun _ _ => rfl)
   exact asE_rep h6.ob this (m2 i _ x hl' hx)
  have fin : ∀ v r, vs.toArray.size = l.length → (if h : vs.toArray.size = 1 then vs.toArray[0] else .tuple vs.toArray) = v → Rep F' w v r → K r →
    ∃ v F' ρ, ∃ (s2 : St PV), ∃ r, (results fn a.tmps).run P w = .ok v w ∧ R S F0 w0 F' ρ a.tmps w s2.gt s2.go ∧ (∀ x, s.go 9999 = some (.ext x) → s2.go 9999 = some (.ext x)) ∧ Rep F' w v r ∧ K r :=
   fun v r _ hv hrep hK => ⟨v, F', ρ, _, r, by rw [hrun, hv], h6, fun x hx => frs_ext _ s hx, hrep, hK⟩
  have hsz : vs.toArray.size = l.length := by simpa using h2
  simp only at hden
  split at hden
  ·rename_i x hxs
   obtain ⟨e1, e2⟩ := hreps _ hxs
   have hl1 : l.length = 1 := e1.symm
   have hv1 : vs.length = 1 := by omega
   have hv0 : vs[0]? = some (vs[0]'(by omega)) := List.getElem?_eq_getElem (by omega)
   refine fin _ x hsz ?_ (e2 0 (vs[0]'(by omega)) x hv0 rfl) hden
   rw [dif_pos (by simpa using hv1)]
   simp
  ·rename_i xs hne hxs
   obtain ⟨e1, e2⟩ := hreps _ hxs
   have hl1 : l.length ≠ 1 := by
    intro he
    rw [he] at e1
    match xs, e1 with
    | [x], _ => exact hne x rfl
   have hv1 : ¬ vs.toArray.size = 1 := by simp; omega
   refine fin _ (.tup xs) hsz (dif_neg hv1) (.tup _ xs (by simp; omega) fun i c x hc hx => e2 i c x (by simpa using hc) hx) hden
  ·cases hden
 ·cases hden
theorem init_str {F : Nat → Nat → Prop} {args : Array Value} {xs : List PV} {n nt : Nat} (hgl : GlOk F w) (hF : ∀ b o, F b o → b < w.heap.size) (h : Reps F w args xs) (hn : xs.length = n) :
  StR ⟨fun _ => False, [], fun _ => undef⟩ F w [] (initSt pvAlg n nt xs) { tmps := args ++ Array.replicate (nt - args.size) undef, defers := [] } w := by
 refine ⟨hgl, rfl, ?_, rfl, F, fun _ => undef, Kp.refl _ _, fun _ _ h => h, fun _ _ h => .inl h, hF, fun _ _ _ => Same.refl _ _ _, fun t sv ht => ?_, ⟨fun o b ho => ?_, fun o o' b b' ho => ?_⟩, fun o b ho => ?_, fun o ho => by cases ho⟩
 ·have h1 := h.1
  simp only [Array.size_append, Array.size_replicate, initSt]
  show args.size + (nt - args.size) = max n nt
  omega
 ·have hm := look_some _ _ _ ht
  simp only [initSt, List.mem_map, List.mem_range] at hm
  obtain ⟨i, hi, he⟩ := hm
  simp at he; obtain ⟨rfl, rfl⟩ := he
  have h1 := h.1
  have hia : i < args.size := by omega
  refine ⟨args[i], by show (args ++ Array.replicate (nt - args.size) undef)[i]? = _; rw [Array.getElem?_append_left hia]; simp [hia], ?_⟩
  have hx : xs[i]? = some (xs[i]'(by omega)) := List.getElem?_eq_getElem (by omega)
  have : pvAlg.nth xs i = xs[i]'(by omega) := by simp [pvAlg, hx]
  rw [this]
  exact h.2 i _ _ (by simp [hia]) hx
 ·cases ho
 ·cases ho
 ·cases ho
theorem enters_of {f : Nat} {fn : Func} {c : Code} (hf : P.funcs[f]? = some fn) (hb : fn.body = some c) (hn : fn.name ≠ "runtime.NumGoroutine") : Enters P f := by
 intro args w
 unfold callFunc
 simp [hf, hb, hn]
/-- the marks are taken; behind them the results -/
theorem leaves_marks {fn : Func} {tmps : Array Value} {R' : Ending → World → Prop} {F : Nat → Nat → Prop} {ρ : Nat → Value} : ∀ (Ds : List Nat) (w : World), Ds.Nodup → (∀ D ∈ Ds, w.heap[D]? = some (.deferred (some [])) ∧ w0.heap.size ≤ D ∧ ¬ Own ρ s.go D) → R S F0 w0 F ρ tmps w s.gt s.go →
  (∀ w', R S F0 w0 F ρ tmps w' s.gt s.go → ∃ v, (results fn tmps).run P w' = .ok v w' ∧ R' (.returned v) w') → LeavesInM Fence.wide 0 P fn tmps R' (Ds.map mark) .returning w
 | [], w, _, _, hr, hk => hk w hr
 | D :: Ds, w, hn, hD, hr, hk => by
  obtain ⟨n1, n2⟩ := List.nodup_cons.1 hn
  obtain ⟨h1, h2, h3⟩ := hD D List.mem_cons_self
  refine ⟨by simp, .inl ⟨D, _, rfl, run_takeDeferred h1, leaves_marks Ds _ n2 (fun E hE => ?_) (hr.putObj h1 rfl rfl (.inl h2) h3) hk⟩⟩
  obtain ⟨g1, g2, g3⟩ := hD E (List.mem_cons_of_mem _ hE)
  exact ⟨(World.putObj_heap_other fun e => n1 (by rw [← e]; exact hE)).trans g1, g2, g3⟩
/-- behind a body: the marks are taken and the results told -/
theorem fin_marks {S' : Fx} {F0' : Nat → Nat → Prop} {w0' : World} {ds' : List Deferred} {fn : Func} {R' : Ending → World → Prop} (hext : ExtB S F0 w0 [] S' F0' w0' ds') (hgl : GlOk F0 w0) (h : StR S' F0' w0' ds' s a w)
  (hk : ∀ w', StR S F0 w0 a.defers s a w' → ∃ v, (results fn a.tmps).run P w' = .ok v w' ∧ R' (.returned v) w') : LeavesInM Fence.wide 0 P fn a.tmps R' a.defers .returning w := by
 obtain ⟨F, ρ, hr⟩ := h.ex
 obtain ⟨Ds, e, hn, hb, hm⟩ := hext.ds
 have hd : a.defers = Ds.map mark := by rw [h.defers, e, List.append_nil]
 have := leaves_marks (P := P) (fn := fn) (tmps := a.tmps) (R' := R') Ds w hn (fun D hD => ⟨(hm hr D hD).1, (hb D hD).1, fun ⟨o, b, h1, h2⟩ => (hm hr D hD).2 o b h1 h2⟩) (hext.r hr) fun w' hr' => hk w' ⟨hgl, h.al.trans hext.al, h.size, rfl, F, ρ, hr'⟩
 rw [hd]; exact this
theorem of_den (hm : P.follows .mixedOrders = true) {plans : List (Nat × Plan)} {f : Nat} {fn : Func} {args : List PV} {r : PV} (hf : P.funcs[f]? = some fn) (hn : (fn.name == "runtime.NumGoroutine") = false)
  (hl : args.length = fn.params.size + fn.nfree) (h : (comF pvAlg P H plans fn args).den P (· = r) []) : Ok P f args r := by
 unfold comF at h
 cases hb : fn.body with
 | none => rw [hb] at h; cases h
 | some c =>
  rw [hb] at h
  refine ⟨enters_of hf hb (by simpa using hn), fun F w vs hF hgl hvs => ?_⟩
  refine callsIn_wide.1 (callsIn_of_wp_marks (F := Fence.wide) (n := 0) hf hb trivial ?_)
  have hst := init_str (nt := fn.ntmps) hgl hF hvs hl
  have fin : Cont P ⟨fun _ => False, [], fun _ => undef⟩ F w [] (· = r) [] (initSt pvAlg (fn.params.size + fn.nfree) fn.ntmps args).nt [] (comRet pvAlg P fn) (fun a' w' => LeavesInM Fence.wide 0 P fn a'.tmps (fun e w' =>
    ∃ v' F', e = .returned v' ∧ Below w.heap.size w w' ∧ (∀ b o, F b o → F' b o) ∧ (∀ b o, F' b o → F b o ∨ w.heap.size ≤ b) ∧ (∀ b o, F' b o → b < w'.heap.size) ∧ Rep F' w' v' r) a'.defers .returning w') := by
   intro S' F0' w0' ds' hext hs' _ s' a' w' _ _ _ hst' hden
   refine fin_marks hext hgl hst' fun w2 hst2 => ?_
   obtain ⟨v, F', ρ, s2, r', h1, h2, _, h6, rfl⟩ := ret_sound hst2 hden
   refine ⟨v, h1, v, F', rfl, ⟨h2.kp.os, h2.kp.tape, h2.kp.output, h2.kp.size, fun k hk => h2.kp.block k hk fun h => h⟩, h2.f0, fun b o hf => ?_, h2.f2, h6⟩
   rcases h2.f1 b o hf with h | h | h
   ·exact .inl h
   ·exact .inr h
   ·exact h.elim
  exact com_sound (fun P => enters' P) (H := hintOf P H fn) hm (fun g ps as bd => range_sound enters' g ps as bd) c none _ _ _ _ _ _ _ [] [] _ _ _ (fun _ => rfl) rfl (fun B hB => by cases hB) hst h fin (fun id k' hl => by cases hl) fin
/-! a function that is handed the party's function -/
/-! a closure with cells of its own that is handed the party's function -/
end
end Go.Lf
/- A function's body with memory does what its text says. -/
namespace Go.Lf
variable [Mk] [Gl]
open Go.RowKit
section
variable {ro : Option Nat} {P : Program} [XC P] {H : Hint} {S : Fx} {F0 : Nat → Nat → Prop} {w0 : World} {ds : List Deferred} {w : World} {a : Act} {s : St PV}
/-- what the run of the results gives, told by a state that may have been frozen -/
def RetOk (P : Program) (S : Fx) (F0 : Nat → Nat → Prop) (w0 : World) (fn : Func) (a : Act) (w : World) (sv : SV PV) (s : St PV) : Prop :=
 ∃ v F ρ, (results fn a.tmps).run P w = .ok v w ∧ R S F0 w0 F ρ a.tmps w s.gt s.go ∧ RepS F ρ w v sv
theorem runs_results {fn : Func} {F : Nat → Nat → Prop} {ρ : Nat → Value} {l : List (SV PV)} (hr : R S F0 w0 F ρ a.tmps w s.gt s.go) (hl : fn.results.toList.mapM (resS pvAlg P s) = some l) :
  ∃ vs : List Value, (results fn a.tmps).run P w = .ok (if h : vs.toArray.size = 1 then vs.toArray[0] else .tuple vs.toArray) w ∧ vs.length = l.length ∧
   ∀ (i : Nat) (v : Value) (sv : SV PV), vs[i]? = some v → l[i]? = some sv → RepS F ρ w v sv := by
 obtain ⟨vs, h1, h2, h3⟩ := runs_of (P := P) (w := w) (fun r => (match r with
  | .tmp t => pure (a.tmps.getD t undef)
  | .cell b t => do loadVar t (← asAddr (a.tmps.getD b undef)) : Sem Value)) (fun v sv => RepS F ρ w v sv) (resS pvAlg P s) hl (fun r sv hr' => resS_run hr hr')
 refine ⟨vs, ?_, h2, h3⟩
 have e : (results fn a.tmps) = (fn.results.mapM (fun r => (match r with
  | .tmp t => pure (a.tmps.getD t undef)
  | .cell b t => do loadVar t (← asAddr (a.tmps.getD b undef)) : Sem Value))) >>= fun vs => pure (if h : vs.size = 1 then vs[0] else .tuple vs) := rfl
 rw [e, Array.mapM_eq_mapM_toList]
 simp only [Sem.run_bind, map_eq_pure_bind, h1, Result.andThen_ok, Sem.run_pure]
theorem retS_ok {sg : Sig} {fn : Func} {sv : SV PV} {s' : St PV} (h : StR S F0 w0 ds s a w) (hr : retS pvAlg P sg fn s = some (sv, s')) : RetOk P S F0 w0 fn a w sv s' := by
 obtain ⟨F, ρ, hR⟩ := h.ex
 unfold retS at hr
 split at hr
 ·rename_i hl
  simp only [Option.some.injEq, Prod.mk.injEq] at hr
  obtain ⟨rfl, rfl⟩ := hr
  obtain ⟨vs, h1, h2, _⟩ := runs_results (P := P) (fn := fn) (l := []) hR (by rw [hl]; rfl)
  have : vs = [] := by simpa using h2
  subst this
  exact ⟨_, F, ρ, h1, hR, .tup #[] [] rfl fun i c x hc => by simp at hc⟩
 ·rename_i q hl
  split at hr
  ·rename_i x1 x2 u i hv he
   simp only [Option.some.injEq, Prod.mk.injEq] at hr
   obtain ⟨rfl, rfl⟩ := hr
   obtain ⟨vs, h1, h2, h3⟩ := runs_results (P := P) (fn := fn) (l := [u]) hR (by rw [hl]; simp [hv])
   obtain ⟨⟨F', hFF, h4⟩, h5⟩ := hR.upd (c := s) ⟨fun _ _ h => h, fun _ _ h => h⟩ (svRefs u)
   have h6 := h4.sub h5.1 h5.2
   have hv1 : vs.length = 1 := h2
   have hv0 : vs[0]? = some (vs[0]'(by omega)) := List.getElem?_eq_getElem (by omega)
   refine ⟨_, F', ρ, h1, h6, ?_⟩
   rw [dif_pos (by simpa using hv1)]
   have := (h3 0 _ u hv0 rfl).mono (F' := F') (ρ' := ρ) (w' := w) hFF (fun _ _ _ => Same.refl _ _ _) (fun _ _ => rfl)
   simpa using this
  ·rename_i v hv _
   simp only [Option.some.injEq, Prod.mk.injEq] at hr
   obtain ⟨rfl, rfl⟩ := hr
   obtain ⟨vs, h1, h2, h3⟩ := runs_results (P := P) (fn := fn) (l := [v]) hR (by rw [hl]; simp [hv])
   have hv1 : vs.length = 1 := h2
   have hv0 : vs[0]? = some (vs[0]'(by omega)) := List.getElem?_eq_getElem (by omega)
   refine ⟨_, F, ρ, h1, hR, ?_⟩
   rw [dif_pos (by simpa using hv1)]
   simpa using h3 0 _ v hv0 rfl
  ·cases hr
 ·rename_i l0 hne1 hne2
  split at hr
  ·rename_i l hl
   simp only [Option.map_eq_some_iff, Prod.mk.injEq] at hr
   obtain ⟨xs, hxs, rfl, rfl⟩ := hr
   obtain ⟨vs, h1, h2, h3⟩ := runs_results (P := P) (fn := fn) (l := l) hR hl
   obtain ⟨⟨F', hFF, h4⟩, h5⟩ := hR.upd (c := s) ⟨fun _ _ h => h, fun _ _ h => h⟩ (l.flatMap svRefs)
   have h6 := h4.sub h5.1 h5.2
   obtain ⟨m1, m2⟩ := mapM_some hxs
   obtain ⟨k1, _⟩ := mapM_some hl
   have hv1 : ¬ vs.toArray.size = 1 := by
    simp only [List.size_toArray]
    intro he
    have : fn.results.toList.length = 1 := by omega
    match hq : fn.results.toList, this with
    | [q], _ => exact hne2 q hq
   refine ⟨_, F', ρ, h1, h6, ?_⟩
   rw [dif_neg hv1]
   refine .tup _ xs (by simp; omega) fun i c x hc hx => ?_
   have hil : i < l.length := by rw [← m1]; exact (List.getElem?_eq_some_iff.1 hx).1
   have hl' : l[i]? = some (l[i]'hil) := List.getElem?_eq_getElem hil
   have := (h3 i c _ (by simpa using hc) hl').mono (F' := F') (ρ' := ρ) (w' := w) hFF (fun _ _ _ => Same.refl _ _ _) (fun _ _ => rfl)
   exact asE_rep h6.ob this (m2 i _ x hl' hx)
  ·cases hr
omit [XC P] in
theorem R.nameNil {F : Nat → Nat → Prop} {ρ : Nat → Value} {tmps : Array Value} (h : R S F0 w0 F ρ tmps w s.gt s.go) {o ty sz : Nat} {fz ag : Bool} (hal : o ∉ S.al) (h0 : 0 < sz) :
  R S F0 w0 F (fun u => if u = o then .slice none 0 0 else ρ u) tmps w (s.ap none (nilDl pvAlg o fz ty sz ag)).gt (s.ap none (nilDl pvAlg o fz ty sz ag)).go := by
 refine h.step (fun _ => False) (fun u => u = o) (fun u => u = o) (Kp.refl _ _) (fun _ _ h => h.elim) (fun _ _ h => h) (fun _ _ _ => Same.refl _ _ _)
  (fun b u hf => .inl hf) h.f2 (fun u hu => by simp [hu]) (fun u hu e => hal (e ▸ hu)) (fun t sv ht => ?_) (fun u c hu => ?_) (fun _ _ _ _ _ _ _ h => h) (fun u c hu hU k hk => ?_) fun u u' c c' hu hu' hU hU' hne => absurd (hU.trans hU'.symm) hne
 ·rcases ap_gt ht with ⟨h1, h2⟩ | ⟨h1, h2, h3⟩
  ·cases h1
  ·exact .inl ⟨h2, rfl, fun u hu e => h3 o (by simp [nilDl]) (e ▸ hu)⟩
 ·rcases ap_go hu with h1 | ⟨h0', h1, h3⟩
  ·simp only [nilDl, look_cons] at h1
   by_cases he : o = u
   ·subst he; simp at h1; subst h1; exact .inr ⟨rfl, [], rfl, h0, by simp, .inl ⟨by simp, rfl⟩⟩
   ·simp [he, look] at h1
  ·have hne : u ≠ o := fun e => h0' (by simp [nilDl, e])
   exact .inl ⟨h1, hne, hne, fun x hx e => h3 o (by simp [nilDl]) (e ▸ hx)⟩
 ·subst hU; simp at hk
  exact absurd hk (HB_none rfl (fun bs e => by cases e) k)
theorem nameNil_ok {sg : Sig} {fn : Func} {r : SV PV × St PV} (hal : S.al = sg.obs.map (·.1)) (h : RetOk P S F0 w0 fn a w r.1 r.2) : RetOk P S F0 w0 fn a w (nameNil pvAlg sg r).1 (nameNil pvAlg sg r).2 := by
 unfold nameNil
 split
 ·rename_i o h1 h2
  split
  ·rename_i fz ty sz ag x h3
   split
   ·rename_i hc
    simp only [Bool.and_eq_true, Bool.not_eq_true'] at hc
    rw [h1] at h
    obtain ⟨v, F, ρ, g1, g2, g3⟩ := h
    have g3 : v = .slice none 0 0 := g3
    subst g3
    refine ⟨_, F, _, g1, R.nameNil g2 (by rw [hal]; exact not_has' hc.2) (by simpa using hc.1), ?_⟩
    exact ⟨by simp, rfl⟩
   ·exact h
  ·exact h
 ·exact h
theorem preset {l : List (Nat × Ob Nat)} {rk : List Nat} {o : Nat} (h1 : o ∈ l.map (·.1)) (h2 : o ∈ rk) : lookE (l.filterMap fun p => if has rk p.1 then some (p.1, p.1) else none) o = some o := by
 induction l with
 | nil => cases h1
 | cons p l ih =>
  rw [List.filterMap_cons]
  by_cases he : p.1 = o
  ·rw [if_pos (by rw [he]; exact has_of_mem h2)]
   simp only [he]
   rw [lookE_cons, if_pos rfl]
  ·have h1' : o ∈ l.map (·.1) := by
    rcases List.mem_cons.1 h1 with e | e
    ·exact absurd e.symm he
    ·exact e
   split
   ·rename_i e; split at e <;> first | exact ih h1' | cases e
   ·rename_i q e
    split at e
    ·simp at e; subst e
     rw [lookE_cons, if_neg he]; exact ih h1'
    ·cases e
theorem retS_sound {sg : Sig} {fn : Func} {K : PV → Prop} {hs : List (List PV → Prop)} (hal : S.al = sg.obs.map (·.1)) (h : StR S F0 w0 ds s a w) (hden : (comRetS pvAlg P sg fn s).den P K hs) :
  ∃ v F' ρ' ys, (results fn a.tmps).run P w = .ok v w ∧ Kp S.s w0 w ∧ (∀ b o, F0 b o → F' b o ∧ Same w0 w b o) ∧ (∀ b o, F' b o → F0 b o ∨ w0.heap.size ≤ b ∨ S b) ∧ (∀ b o, F' b o → b < w.heap.size) ∧
   RepS F' ρ' w v (sg.resI ys) ∧ ObsR F' ρ' w (lookO (sg.robsI ys)) ∧ (∀ o b, lookO (sg.robsI ys) o = some b → ∀ k, HB (ρ' o) k → w0.heap.size ≤ k ∨ S k) ∧
   (∀ o ∈ sg.obs.map (·.1), o ∈ sg.robs.map (·.1) → ρ' o = S.ρ0 o) ∧ K (.tup ys) := by
 unfold comRetS at hden
 split at hden
 ·rename_i r hr
  obtain ⟨r0, hr0, rfl⟩ := Option.map_eq_some_iff.1 hr
  have hok := nameNil_ok hal (retS_ok h (show retS pvAlg P sg fn s = some (r0.1, r0.2) from hr0))
  generalize nameNil pvAlg sg r0 = r at hden hok
  obtain ⟨sv, s'⟩ := r
  simp only at hden hok
  obtain ⟨v, F, ρ, hrun, hR, hrep⟩ := hok
  split at hden
  ·rename_i b hb
   simp only [Option.bind_eq_some_iff] at hb
   obtain ⟨b1, hb1, hb2⟩ := hb
   split at hden
   ·rename_i ys hys
    split at hden
    ·rename_i hc
     simp only [Bool.and_eq_true, beq_iff_eq] at hc
     obtain ⟨⟨⟨⟨c1, c2⟩, c3⟩, c4⟩, c5⟩ := hc
     have n2 := seqL_nd c2
     obtain ⟨l1, l2⟩ := bind_sv hR.ob hb1
     obtain ⟨l3, l4⟩ := bind_obs hR.ob hb2
     let ρs : Nat → Value := fun o => match lookE b.ids o with
      | some u => ρ u
      | none => undef
     have hfull : Full b ys ρ ρs := by
      refine ⟨fun i x hi => ?_, fun o u hu => by simp only [ρs, hu]⟩
      obtain ⟨m1, m2⟩ := mapM_some hys
      have hlen : i < sg.nout := by
       have hmem : ∀ j, j < sg.nout → j ∈ b.lv.map (·.1) := by
        intro j hj
        have hx' : ys[j]? = some (ys[j]'(by simp at m1; omega)) := List.getElem?_eq_getElem _
        have := m2 j j _ (by simp [hj]) hx'
        exact List.mem_map.2 ⟨_, lookE_in _ _ _ this, rfl⟩
       have hi' : i ∈ b.lv.map (·.1) := List.mem_map.2 ⟨_, lookE_in _ _ _ hi, rfl⟩
       rcases Nat.lt_or_ge i sg.nout with hlt | hge
       ·exact hlt
       ·exfalso
        have hsub : (i :: List.range sg.nout).Nodup := List.nodup_cons.2 ⟨by simp; omega, List.nodup_range⟩
        have := hsub.length_le_of_subset (l₂ := b.lv.map (·.1)) (fun j hj => by
         rcases List.mem_cons.1 hj with rfl | hj
         ·exact hi'
         ·exact hmem j (by simpa using hj))
        simp at this
        omega
      have hx' : ys[i]? = some (ys[i]'(by simp at m1; omega)) := List.getElem?_eq_getElem _
      have := m2 i i _ (by simp [hlen]) hx'
      rw [hi] at this
      simp only [instL, List.getD_eq_getElem?_getD, hx', Option.getD_some]
      exact (Option.some.inj this).symm
     have mem : ∀ o b', lookO (sg.robsI ys) o = some b' → ∃ u q, lookE b.ids o = some u ∧ s'.go u = some q ∧ ρs o = ρ u ∧ RepO F ρs w o b' := by
      intro o b' hb'
      have := lookO_some hb'
      simp only [Sig.robsI, List.mem_map] at this
      obtain ⟨q, hq, e⟩ := this
      simp at e; obtain ⟨rfl, rfl⟩ := e
      obtain ⟨u, q', g1, g2, g3⟩ := l4 b ys ρs (BLe.refl _) hfull q.1 q.2 hq
      exact ⟨u, q', g1, g2, hfull.id _ u g1, g3⟩
     refine ⟨v, F, ρs, ys, hrun, hR.kp, fun b o hf => ⟨hR.f0 b o hf, hR.f3 b o hf⟩, hR.f1, hR.f2, l2 b ys ρs l3 hfull v hrep, ⟨fun o b' hb' => ?_, fun o o' b1 b2 h1 h2 hne k hk hk' => ?_⟩, fun o b' hb' k hk => ?_, fun o ho ho' => ?_, hden⟩
     ·obtain ⟨_, _, _, _, _, g⟩ := mem o b' hb'
      exact g
     ·obtain ⟨u1, q1, e1, e2, e3, _⟩ := mem o b1 h1
      obtain ⟨u2, q2, f1, f2, f3, _⟩ := mem o' b2 h2
      have hu : u1 ≠ u2 := fun e => hne (by
       have := nodup_val n2 (lookE_in _ _ _ e1) (lookE_in _ _ _ f1) e
       simpa using congrArg Prod.fst this)
      rw [e3] at hk; rw [f3] at hk'
      exact hR.ob.sep u1 u2 q1 q2 e2 f2 hu k hk hk'
     ·obtain ⟨u, q, e1, e2, e3, _⟩ := mem o b' hb'
      rw [e3] at hk
      exact hR.mine u q e2 k hk
     ·have h1 : lookE b.ids o = some o := l3.1 _ _ (l1.1 _ _ (preset ho ho'))
      rw [hfull.id o o h1]
      exact hR.al o (by rw [hal]; exact ho)
    ·cases hden
   ·cases hden
  ·cases hden
 ·cases hden
theorem look_zip {l : List (SV Nat)} {f : SV Nat → SV PV} {t : Nat} {v : SV PV} (h : look (l.zipIdx.map fun p => (p.2, some (f p.1))) t = some v) : ∃ y, l[t]? = some y ∧ v = f y := by
 have hm := look_some _ _ _ h
 simp only [List.mem_map] at hm
 obtain ⟨p, hp, e⟩ := hm
 simp at e; obtain ⟨rfl, rfl⟩ := e
 exact ⟨p.1, List.mem_zipIdx_iff_getElem?.1 hp, rfl⟩
theorem initS_str {F : Nat → Nat → Prop} {ρ : Nat → Value} {vs : Array Value} {sg : Sig} {xs : List PV} {nt : Nat} (hgl : GlOk F w) (hF : ∀ b o, F b o → b < w.heap.size) (hn : vs.size = sg.args.length)
  (hargs : ∀ (i : Nat) (v : Value) (a : SV PV), vs[i]? = some v → (sg.argsI xs)[i]? = some a → RepS F ρ w v a) (hobs : ObsR F ρ w (lookO (sg.obsI xs))) :
  StR ⟨blocksOf ρ (sg.obsI xs), sg.obs.map (·.1), ρ⟩ F w [] (initStS pvAlg sg nt xs) { tmps := vs ++ Array.replicate (nt - vs.size) undef, defers := [] } w := by
 have hgo : ∀ o, (initStS pvAlg sg nt xs).go o = lookO (sg.obsI xs) o := by
  intro o
  show look (sg.obs.map fun p => (p.1, some (p.2.map' (pvAlg.nth xs) id))) o = look ((sg.obs.map fun p => (p.1, p.2.map' (instL xs) id)).map fun p => (p.1, some p.2)) o
  rw [List.map_map]; rfl
 refine ⟨hgl, rfl, ?_, rfl, F, ρ, Kp.refl _ _, fun _ _ h => h, fun _ _ h => .inl h, hF, fun _ _ _ => Same.refl _ _ _, fun t sv ht => ?_, ⟨fun o b ho => ?_, fun o o' b b' ho ho' => ?_⟩, fun o b ho k hk => ?_, fun o ho => rfl⟩
 ·simp only [Array.size_append, Array.size_replicate, initStS]
  show vs.size + (nt - vs.size) = max sg.args.length nt
  omega
 ·obtain ⟨y, hy, rfl⟩ := look_zip ht
  have hia : t < vs.size := by rw [hn]; exact (List.getElem?_eq_some_iff.1 hy).1
  refine ⟨vs[t], by show (vs ++ Array.replicate (nt - vs.size) undef)[t]? = _; rw [Array.getElem?_append_left hia]; simp [hia], ?_⟩
  exact hargs t _ _ (by simp [hia]) (by simp only [Sig.argsI, List.getElem?_map, hy, Option.map_some]; rfl)
 ·rw [hgo] at ho; exact hobs.rep o b ho
 ·rw [hgo] at ho ho'; exact hobs.sep o o' b b' ho ho'
 ·rw [hgo] at ho
  exact .inr ⟨_, lookO_some ho, hk⟩
theorem of_denS (hm : P.follows .mixedOrders = true) {plans : List (Nat × Plan)} {f : Nat} {fn : Func} {sg : Sig} {xs ys : List PV} (hf : P.funcs[f]? = some fn) (hn : (fn.name == "runtime.NumGoroutine") = false)
  (h : (comFS pvAlg P H plans sg fn xs).den P (· = .tup ys) []) : OkS P f sg xs ys := by
 unfold comFS at h
 cases hbd : fn.body with
 | none => rw [hbd] at h; cases h
 | some c =>
  rw [hbd] at h
  refine ⟨enters_of hf hbd (by simpa using hn), fun F w vs ρ hF hgl hsz hargs hobs => ?_⟩
  refine callsIn_wide.1 (callsIn_of_wp_marks (F := Fence.wide) (n := 0) hf hbd trivial ?_)
  have hst := initS_str (nt := fn.ntmps) hgl hF hsz hargs hobs
  have fin : Cont P ⟨blocksOf ρ (sg.obsI xs), sg.obs.map (·.1), ρ⟩ F w [] (· = .tup ys) [] (initStS pvAlg sg fn.ntmps xs).nt [] (comRetS pvAlg P sg fn) (fun a' w' => LeavesInM Fence.wide 0 P fn a'.tmps (fun e w' =>
    ∃ v' F' ρ', e = .returned v' ∧ Kp (blocksOf ρ (sg.obsI xs)) w w' ∧ (∀ b o, F b o → F' b o ∧ Same w w' b o) ∧ (∀ b o, F' b o → F b o ∨ w.heap.size ≤ b ∨ blocksOf ρ (sg.obsI xs) b) ∧ (∀ b o, F' b o → b < w'.heap.size) ∧
     RepS F' ρ' w' v' (sg.resI ys) ∧ ObsR F' ρ' w' (lookO (sg.robsI ys)) ∧ (∀ o b, lookO (sg.robsI ys) o = some b → ∀ k, HB (ρ' o) k → w.heap.size ≤ k ∨ blocksOf ρ (sg.obsI xs) k) ∧
     (∀ o ∈ sg.obs.map (·.1), o ∈ sg.robs.map (·.1) → ρ' o = ρ o)) a'.defers .returning w') := by
   intro S' F0' w0' ds' hext hs' _ s' a' w' _ _ _ hst' hden
   refine fin_marks hext hgl hst' fun w2 hst2 => ?_
   obtain ⟨v, F', ρ', ys', h1, h2, h3, h4, h5, h6, h7, h8, h9, h10⟩ := retS_sound rfl hst2 hden
   obtain rfl : ys' = ys := by simpa using h10
   exact ⟨v, h1, v, F', ρ', rfl, h2, h3, h4, h5, h6, h7, h8, h9⟩
  exact com_sound (fun P => enters' P) (H := hintOf P H fn) hm (fun g ps as bd => range_sound enters' g ps as bd) c none _ _ _ _ _ _ _ [] [] _ _ _ (fun _ => rfl) rfl (fun B hB => by cases hB) hst h fin (fun id k' hl => by cases hl) fin
end
end Go.Lf
/- A law's arguments read as values without memory; a law from the contract of its function. -/
namespace Go.Lf
/-- where nothing else is said: anywhere -/
instance (priority := low) mk0 : Mk := ⟨0⟩
variable [Gl]
open Go.RowKit Go.ChangeShapes
/-! ### readings -/
section
variable {H : Type}
def litPV : Lit → PV
 | .bool b => .bool b
 | .int k n => .int k n
 | .string l => .str ⟨l.toArray⟩
 | _ => .nilI
mutual
def dpv : DataW H → PV
 | .lit l => litPV l
 | .nil => .sl []
 | .slice es _ => .sl (dpvs es)
 | .agg ps => .agg (dpvc ps)
 | _ => .nilI
def dpvs : List (DataW H) → List PV
 | [] => []
 | d :: r => dpv d :: dpvs r
def dpvc : List (DataW H) → List PV
 | [] => []
 | d :: r => (dpv d).cells ++ dpvc r
end
theorem dpvs_eq : ∀ l : List (DataW H), dpvs l = l.map dpv
 | [] => by simp [dpvs]
 | d :: r => by simp [dpvs, dpvs_eq r]
theorem dpvc_eq : ∀ l : List (DataW H), dpvc l = l.flatMap fun d => (dpv d).cells
 | [] => by simp [dpvc]
 | d :: r => by simp [dpvc, dpvc_eq r]
/- how many values and letters -/
mutual
def dbulk : DataW H → Nat
 | .lit (.string l) => l.length + 1
 | .lit _ => 1
 | .slice es sp => dbulks es + dbulks sp + 1
 | .agg ps => dbulks ps + 1
 | _ => 1
def dbulks : List (DataW H) → Nat
 | [] => 0
 | d :: r => dbulk d + dbulks r
end
/-- values of a type, as they come in; with the bulk that they have at least -/
inductive HasT (P : Program) : Nat → PV → Nat → Prop
 | int (t : Nat) (k : IntKind) (n : Int) (m : Nat) (ht : P.underlying t = some (.int k)) (hw : (Lit.int k n).wf = true) (hm : 1 ≤ m) : HasT P t (.int k n) m
 | bool (t : Nat) (b : Bool) (m : Nat) (ht : P.underlying t = some .bool) (hm : 1 ≤ m) : HasT P t (.bool b) m
 | str (t : Nat) (s : ByteArray) (m : Nat) (ht : P.underlying t = some .string) (hw : s.size ≤ maxLen) (hm : s.size + 1 ≤ m) : HasT P t (.str s) m
 | sl (t e : Nat) (l : List PV) (ms : List Nat) (m : Nat) (ht : P.underlying t = some (.slice e)) (hl : l.length ≤ maxLen) (hms : ms.length = l.length)
   (h : ∀ (i : Nat) (x : PV) (k : Nat), l[i]? = some x → ms[i]? = some k → HasT P e x k) (hm : ms.sum + 1 ≤ m) : HasT P t (.sl l) m
 | agg (t : Nat) (fs : Array Field) (xs : List PV) (ms : List Nat) (m : Nat) (ht : P.underlying t = some (.struct fs)) (hl : xs.length = fs.size) (hms : ms.length = xs.length)
   (h : ∀ (i : Nat) (f : Field) (x : PV) (k : Nat), fs[i]? = some f → xs[i]? = some x → ms[i]? = some k → HasT P f.type x k) (hm : ms.sum + 1 ≤ m) : HasT P t (.agg (xs.flatMap PV.cells)) m
theorem dbulks_sum : ∀ l : List (DataW H), dbulks l = (l.map dbulk).sum
 | [] => by simp [dbulks]
 | d :: r => by simp [dbulks, dbulks_sum r]
/-! ### the types that can be read so -/
def fieldsAt (P : Program) : List Field → Nat → Option Nat
 | [], off => some off
 | f :: fs, off => if f.offset == off then fieldsAt P fs (off + P.cellsOf f.type) else none
def plainT (P : Program) (tys : List Nat) (t : Nat) : Bool := match P.underlying t with
 | some (.int _) => P.cellsOf t == 1
 | some .bool => P.cellsOf t == 1
 | some .string => P.cellsOf t == 1
 | some (.slice e) => P.cellsOf t == 1 && has tys e && Nat.blt 0 (P.cellsOf e)
 | some (.struct fs) => (fieldsAt P fs.toList 0 == some (P.cellsOf t)) && fs.toList.all fun f => has tys f.type
 | _ => false
def plainAll (P : Program) (tys : List Nat) : Bool := tys.all (plainT P tys)
theorem fields_cells {P : Program} {cs : List Value} {xs : List PV} : ∀ (fs : List Field) (off n : Nat), fieldsAt P fs off = some n → cs.length = n → fs.length = xs.length →
  (∀ (i : Nat) (f : Field) (x : PV), fs[i]? = some f → xs[i]? = some x → x.cells.length = ((cs.drop f.offset).take (P.cellsOf f.type)).length ∧ ((cs.drop f.offset).take (P.cellsOf f.type)).length = P.cellsOf f.type) →
  (xs.flatMap PV.cells).length = n - off ∧ off ≤ n ∧ ∀ (i : Nat) (y : PV), (xs.flatMap PV.cells)[i]? = some y → ∃ (j : Nat) (f : Field) (x : PV) (k : Nat), fs[j]? = some f ∧ xs[j]? = some x ∧ x.cells[k]? = some y ∧ off + i = f.offset + k ∧ k < P.cellsOf f.type := by
 intro fs
 induction fs generalizing xs with
 | nil =>
  intro off n h1 h2 h3 h4
  simp only [fieldsAt, Option.some.injEq] at h1; subst h1
  obtain rfl : xs = [] := by simpa using h3.symm
  exact ⟨by simp, Nat.le_refl _, fun i y hy => by simp at hy⟩
 | cons f fs ih =>
  intro off n h1 h2 h3 h4
  unfold fieldsAt at h1
  split at h1
  ·rename_i hoff
   have hoff : f.offset = off := by simpa using hoff
   cases xs with
   | nil => simp at h3
   | cons x xs =>
    obtain ⟨e1, e2⟩ := h4 0 f x (by simp) (by simp)
    obtain ⟨i1, i2, i3⟩ := ih (xs := xs) _ n h1 h2 (by simpa using h3) fun i f' x' hf hx => h4 (i + 1) f' x' (by simpa using hf) (by simpa using hx)
    have hx : x.cells.length = P.cellsOf f.type := by omega
    refine ⟨by simp only [List.flatMap_cons, List.length_append, i1, hx]; omega, by omega, fun i y hy => ?_⟩
    rw [List.flatMap_cons, List.getElem?_append] at hy
    split at hy
    ·rename_i hlt
     exact ⟨0, f, x, i, by simp, by simp, hy, by rw [hoff], by omega⟩
    ·rename_i hge
     obtain ⟨j, f', x', k, g1, g2, g3, g4, g5⟩ := i3 _ y hy
     exact ⟨j + 1, f', x', k, by simpa using g1, by simpa using g2, g3, by omega, g5⟩
  ·cases h1
/-- what is read of the cells -/
structure Reads (P : Program) (w : World) (t : Nat) (cs : List Value) (x : PV) (m : Nat) : Prop where
 len : cs.length = x.cells.length
 rep : ∀ (i : Nat) (c : Value) (y : PV), cs[i]? = some c → x.cells[i]? = some y → Rep (fun b _ => b < w.heap.size) w c y
 okc : x.okc (P.cellsOf t) (tag P t) = true
 has : HasT P t x m
theorem one_reads {P : Program} {w : World} {t : Nat} {c : Value} {x : PV} {m : Nat} (hx : x.cells = [x]) (hc : x.isCell = true) (ha : x.isAg = false) (hn : P.cellsOf t = 1) (ht : tag P t = false) (hr : Rep (fun b _ => b < w.heap.size) w c x) (hh : HasT P t x m) : Reads P w t [c] x m := by
 refine ⟨by rw [hx]; rfl, fun i c' y h1 h2 => ?_, by simp [PV.okc, hx, hn, ha, ht, hc], hh⟩
 rw [hx] at h2
 cases i with
 | zero => simp at h1 h2; subst h1; subst h2; exact hr
 | succ i => simp at h1
theorem trod_reads {P : Program} {tys : List Nat} (hp : plainAll P tys = true) {enc : TypeId × Value → H} {w : World} : ∀ (fuel : Nat) (t : Nat) (cs : List Value) (d : DataW H) (ps : List MemPlace), t ∈ tys →
  DataW.trod enc P w 0 (fun _ => true) true fuel t cs = some (d, ps) → Reads P w t cs (dpv d) (dbulk d) := by
 intro fuel
 induction fuel with
 | zero => intro t cs d ps _ h; simp [DataW.trod] at h
 | succ n ih =>
  intro t cs d ps hty h
  have hpt := List.all_eq_true.1 hp t hty
  unfold plainT at hpt
  split at hpt
  ·rename_i k hu
   obtain ⟨z, rfl, hx, hw⟩ := DataW.trod_int hu h
   simp only [Prod.mk.injEq] at hx
   obtain ⟨rfl, rfl⟩ := hx
   exact one_reads rfl rfl rfl (by simpa using hpt) (by simp [tag, hu]) (.int _ _) (.int t k z _ hu hw (by simp [dbulk]))
  ·rename_i hu
   obtain ⟨z, rfl, hx⟩ := DataW.trod_bool hu h
   simp only [Prod.mk.injEq] at hx
   obtain ⟨rfl, rfl⟩ := hx
   exact one_reads rfl rfl rfl (by simpa using hpt) (by simp [tag, hu]) (.bool _) (.bool t z _ hu (by simp [dbulk]))
  ·rename_i hu
   obtain ⟨z, rfl, hx, hz⟩ := DataW.trod_string hu h
   simp only [Prod.mk.injEq] at hx
   obtain ⟨rfl, rfl⟩ := hx
   have e : dpv (H := H) (.lit (.string z.data.toList)) = .str z := by simp [dpv, litPV]
   rw [e]
   exact one_reads rfl rfl rfl (by simpa using hpt) (by simp [tag, hu]) (.str _) (.str t z _ hu hz (by simp [dbulk]))
  ·rename_i e hu
   simp only [Bool.and_eq_true, beq_iff_eq] at hpt
   obtain ⟨⟨p1, p2⟩, p3⟩ := hpt
   have p3 : 0 < P.cellsOf e := by simpa using p3
   have he : e ∈ tys := mem_of_has p2
   have htag : tag P t = false := by simp [tag, hu]
   rcases DataW.trod_slice hu h with ⟨rfl, hx⟩ | ⟨a, len, cap, elems, rest, n', hn, rfl, hx, hb, hl, hm, hlen, hel, hsp, _⟩
   ·simp only [Prod.mk.injEq] at hx
    obtain ⟨rfl, rfl⟩ := hx
    exact one_reads rfl rfl rfl p1 htag (.sl0 none) (.sl t e [] [] _ hu (Nat.zero_le _) rfl (fun i x k hx => by simp at hx) (by simp [dbulk]))
   ·obtain rfl : n = n' := by omega
    simp only [Prod.mk.injEq] at hx
    obtain ⟨rfl, rfl⟩ := hx
    have hdp : dpv (.slice (elems.map (·.1)) (rest.map (·.1))) = .sl (elems.map fun p => dpv p.1) := by
     simp [dpv, dpvs_eq, List.map_map, Function.comp_def]
    obtain ⟨hsp1, hsp2⟩ := hsp rfl
    -- each element
    have elem : ∀ (i : Nat) (p : DataW H × List MemPlace), elems[i]? = some p → ∃ us : List Value, w.cells? 0 (a.add (i * P.cellsOf e)) (P.cellsOf e) = some us ∧ Reads P w e us (dpv p.1) (dbulk p.1) := by
     intro i p hp'
     have hi : i < len := by rw [← hlen]; exact (List.getElem?_eq_some_iff.1 hp').1
     have := hel i hi
     rw [hp'] at this
     simp only [Option.bind_eq_some_iff] at this
     obtain ⟨us, hus, hr⟩ := this
     exact ⟨us, hus, ih e us p.1 p.2 he hr⟩
    have cellsAt : ∀ {ad : Addr} {m : Nat} {us : List Value}, w.cells? 0 ad m = some us → us.length = m ∧ ∀ j u, us[j]? = some u → w.cell? (ad.add j) = some u := by
     intro ad m us hus
     unfold World.cells? at hus
     split at hus
     ·obtain ⟨m1, m2⟩ := mapM_some hus
      refine ⟨by simpa using m1, fun j u hu => ?_⟩
      have hj : j < m := by have := (List.getElem?_eq_some_iff.1 hu).1; simp at m1; omega
      exact m2 j j u (by simp [hj]) hu
     ·cases hus
    by_cases hc0 : cap = 0
    ·have hl0 : len = 0 := by omega
     subst hl0; subst hc0
     have : elems = [] := List.eq_nil_of_length_eq_zero hlen
     subst this
     rw [hdp]
     exact one_reads rfl rfl rfl p1 htag (.sl0 (some a)) (.sl t e [] [] _ hu (Nat.zero_le _) rfl (fun i x k hx => by simp at hx) (by simp [dbulk]))
    ·-- the address has no spot
     have hspot : a.spot = none := by
      have : ∃ us, w.cells? 0 (a.add (0 * P.cellsOf e)) (P.cellsOf e) = some us := by
       by_cases hl0 : len = 0
       ·have h0 := hsp2 0 (by omega)
        subst hl0
        have hr0 : rest[0]? = some (rest[0]'(by omega)) := List.getElem?_eq_getElem (by omega)
        rw [hr0] at h0
        simp only [Option.bind_eq_some_iff] at h0
        obtain ⟨us, hus, _⟩ := h0
        exact ⟨us, by simpa using hus⟩
       ·have h0 := hel 0 (by omega)
        have hr0 : elems[0]? = some (elems[0]'(by omega)) := List.getElem?_eq_getElem (by omega)
        rw [hr0] at h0
        simp only [Option.bind_eq_some_iff] at h0
        obtain ⟨us, hus, _⟩ := h0
        exact ⟨us, hus⟩
      obtain ⟨us, hus⟩ := this
      obtain ⟨q1, q2⟩ := cellsAt hus
      have := q2 0 (us[0]'(by omega)) (List.getElem?_eq_getElem (by omega))
      have := World.cell?_spot this
      simpa [Addr.add] using this
     obtain ⟨b, off, sp⟩ := a
     simp only at hspot
     subst hspot
     have hadd : ∀ i j : Nat, (Addr.add (Addr.add ⟨b, off, none⟩ (i * P.cellsOf e)) j) = ⟨b, off + i * P.cellsOf e + j, none⟩ := fun i j => by rw [addr_add, addr_add]
     have hlt : ∀ {ad : Addr} {u : Value}, w.cell? ad = some u → ad.block < w.heap.size := by
      intro ad u hu
      unfold World.cell? at hu
      split at hu
      ·rename_i hh; exact (Array.getElem?_eq_some_iff.1 hh).1
      ·cases hu
     rw [hdp]
     have hlen' : (elems.map fun p => dpv p.1).length = len := by simpa using hlen
     have hrep : Rep (fun b _ => b < w.heap.size) w (.slice (some ⟨b, off, none⟩) (elems.map fun p => dpv p.1).length cap) (.sl (elems.map fun p => dpv p.1)) := by
      refine .sl b off cap (P.cellsOf e) _ (fun i j => (w.cell? ⟨b, off + i * P.cellsOf e + j, none⟩).getD undef) (by omega) hm (fun x hx => ?_) (fun x hx => ?_) (fun i x j y hx hy => ?_) (fun i x j y hx hy => ?_) ⟨Nat.zero_le _, fun h => absurd h (Nat.lt_irrefl 0)⟩
      ·obtain ⟨p, hp', rfl⟩ := List.mem_map.1 hx
       obtain ⟨i, hi, rfl⟩ := List.getElem_of_mem hp'
       obtain ⟨us, _, hr⟩ := elem i _ (List.getElem?_eq_getElem hi)
       exact (okc_cells hr.okc).1
      ·obtain ⟨p, hp', rfl⟩ := List.mem_map.1 hx
       obtain ⟨i, hi, rfl⟩ := List.getElem_of_mem hp'
       obtain ⟨us, _, hr⟩ := elem i _ (List.getElem?_eq_getElem hi)
       exact okc_all hr.okc
      all_goals
       simp only [List.getElem?_map, Option.map_eq_some_iff] at hx
       obtain ⟨p, hp', rfl⟩ := hx
       obtain ⟨us, hus, hr⟩ := elem i p hp'
       obtain ⟨q1, q2⟩ := cellsAt hus
       have hj : j < us.length := by rw [hr.len]; exact (List.getElem?_eq_some_iff.1 hy).1
       have hcell := q2 j (us[j]'hj) (List.getElem?_eq_getElem hj)
       rw [hadd] at hcell
      ·exact ⟨hlt hcell, by simp only [hcell, Option.getD_some]⟩
      ·simp only [hcell, Option.getD_some]
       exact hr.rep j _ y (List.getElem?_eq_getElem hj) hy
     rw [hlen'] at hrep
     refine one_reads rfl rfl rfl p1 htag hrep (.sl t e _ (elems.map fun p => dbulk p.1) _ hu (by rw [hlen']; omega) (by simp) (fun i x k hx hk => ?_) ?_)
     ·simp only [List.getElem?_map, Option.map_eq_some_iff] at hx hk
      obtain ⟨p, hp', rfl⟩ := hx
      obtain ⟨p2, hp2, rfl⟩ := hk
      rw [hp'] at hp2; cases hp2
      obtain ⟨us, _, hr⟩ := elem i p hp'
      exact hr.has
     ·simp only [dbulk, dbulks_sum, List.map_map, Function.comp_def]
      omega
  ·rename_i fs hu
   simp only [Bool.and_eq_true, beq_iff_eq] at hpt
   obtain ⟨p1, p2⟩ := hpt
   obtain ⟨xs, n', hn, hx, hcs, hxs, hf⟩ := DataW.trod_struct hu h
   obtain rfl : n = n' := by omega
   simp only [Prod.mk.injEq] at hx
   obtain ⟨rfl, rfl⟩ := hx
   have htag : tag P t = true := by simp [tag, hu]
   have hdp : dpv (.agg (xs.map (·.1))) = .agg ((xs.map fun p => dpv p.1).flatMap PV.cells) := by
    simp only [dpv, dpvc_eq, List.flatMap_map]
   have fld : ∀ (i : Nat) (f : Field) (p : DataW H × List MemPlace), fs[i]? = some f → xs[i]? = some p → Reads P w f.type ((cs.drop f.offset).take (P.cellsOf f.type)) (dpv p.1) (dbulk p.1) := by
    intro i f p hf1 hp1
    have := hf i f hf1
    rw [hp1] at this
    have hm : f ∈ fs.toList := List.mem_of_getElem? (by rw [Array.getElem?_toList]; exact hf1)
    exact ih f.type _ p.1 p.2 (mem_of_has (List.all_eq_true.1 p2 f hm)) this
   have hfc := fields_cells (P := P) (cs := cs) (xs := xs.map fun p => dpv p.1) fs.toList 0 _ p1 hcs (by simp [hxs]) (fun i f x hf1 hx1 => by
    simp only [List.getElem?_map, Option.map_eq_some_iff] at hx1
    obtain ⟨p, hp1, rfl⟩ := hx1
    have := fld i f p (by simpa using hf1) hp1
    exact ⟨this.len.symm, by rw [this.len]; exact (okc_cells this.okc).1⟩)
   obtain ⟨q1, _, q3⟩ := hfc
   rw [hdp]
   refine ⟨by simp only [PV.cells, q1, hcs]; rfl, fun i c y hc hy => ?_, ?_, ?_⟩
   ·obtain ⟨j, f, x, k, g1, g2, g3, g4, g5⟩ := q3 i y hy
    simp only [List.getElem?_map, Option.map_eq_some_iff] at g2
    obtain ⟨p, hp1, rfl⟩ := g2
    have := fld j f p (by simpa using g1) hp1
    refine this.rep k c y ?_ g3
    rw [List.getElem?_take, if_pos g5, List.getElem?_drop, ← g4, Nat.zero_add]
    exact hc
   ·simp only [PV.okc, PV.cells, PV.isAg, htag, q1, Nat.sub_zero, beq_self_eq_true, Bool.and_self, Bool.true_and, List.all_eq_true]
    intro y hy
    obtain ⟨i, hi, rfl⟩ := List.getElem_of_mem hy
    obtain ⟨j, f, x, k, g1, g2, g3, _⟩ := q3 i _ (List.getElem?_eq_getElem hi)
    simp only [List.getElem?_map, Option.map_eq_some_iff] at g2
    obtain ⟨p, hp1, rfl⟩ := g2
    have := fld j f p (by simpa using g1) hp1
    exact okc_all this.okc _ (List.mem_of_getElem? g3)
   ·refine .agg t fs _ (xs.map fun p => dbulk p.1) _ hu (by simp [hxs]) (by simp) (fun i f x k hf1 hx1 hk => ?_) ?_
    ·simp only [List.getElem?_map, Option.map_eq_some_iff] at hx1 hk
     obtain ⟨p, hp1, rfl⟩ := hx1
     obtain ⟨p2, hp2, rfl⟩ := hk
     rw [hp1] at hp2; cases hp2
     exact (fld i f p hf1 hp1).has
    ·simp only [dbulk, dbulks_sum, List.map_map, Function.comp_def]
     omega
  ·cases hpt
end
end Go.Lf
/- A law from the contract of its function. -/
namespace Go.Lf
variable [Gl]
open Go.RowKit Go.ChangeShapes
theorem trodAll_inv {H : Type} {enc : TypeId × Value → H} {P : Program} {w : World} {base : Nat} {sp : Nat → Bool} {held : Bool} : ∀ {ts : List Nat} {vs : List Value} {ds : List (DataW H)} {ps : List MemPlace}, DataW.TrodAll enc P w base sp held ts vs ds ps →
  vs.length = ts.length ∧ ds.length = ts.length ∧ ∀ (i : Nat) t v d, ts[i]? = some t → vs[i]? = some v → ds[i]? = some d → ∃ p, (∀ x ∈ p, x ∈ ps) ∧ DataW.Trod enc P w base sp held t v d p
 | [], vs, ds, ps, h => by
  cases vs <;> cases ds <;> simp [DataW.TrodAll] at h
  exact ⟨rfl, rfl, fun i t v d h => by simp at h⟩
 | t :: ts, vs, ds, ps, h => by
  obtain ⟨v, vs', d, ds', p, q, rfl, rfl, rfl, h1, h2⟩ := trodAll_cons h
  obtain ⟨i1, i2, i3⟩ := trodAll_inv h2
  refine ⟨by simp [i1], by simp [i2], fun i t' v' d' ht hv hd => ?_⟩
  cases i with
  | zero => simp at ht hv hd; subst ht; subst hv; subst hd; exact ⟨p, fun x hx => List.mem_append.2 (.inl hx), h1⟩
  | succ i =>
   obtain ⟨p', g1, g2⟩ := i3 i t' v' d' (by simpa using ht) (by simpa using hv) (by simpa using hd)
   exact ⟨p', fun x hx => List.mem_append.2 (.inr (g1 x hx)), g2⟩
theorem trodAll_below {H : Type} {enc : TypeId × Value → H} {P : Program} (hlo : laidOutB P = true) {W W' : World} (hb : Below W.heap.size W W') : ∀ {ts : List Nat} {vs : List Value} {ds : List (DataW H)} {ps : List MemPlace},
  DataW.TrodAll enc P W 0 (fun _ => true) true ts vs ds ps → (∀ t ∈ ts, P.readableRec t = true ∧ t < P.types.size) → ∃ pa, DataW.TrodAll enc P W' 0 (fun b => decide (b < W.heap.size)) true ts vs ds pa
 | [], vs, ds, ps, h, _ => by
  cases vs <;> cases ds <;> simp [DataW.TrodAll] at h
  exact ⟨[], rfl⟩
 | t :: ts, vs, ds, ps, h, ht => by
  obtain ⟨v, vs', d, ds', p, q, rfl, rfl, rfl, h1, h2⟩ := trodAll_cons h
  obtain ⟨pa, ih⟩ := trodAll_below hlo hb h2 fun t ht' => ht t (List.mem_cons_of_mem _ ht')
  obtain ⟨g1, g2⟩ := ht t List.mem_cons_self
  have hlt : ∀ x ∈ p, x.block < W.heap.size := by obtain ⟨m, hm⟩ := h1; exact DataW.trod_lt m _ _ _ hm
  exact ⟨_, trodAll_cons_mk (Below.trod hlo g1 g2 h1 hb hlt) ih⟩
/-- a whole argument -/
theorem arg_rep {H : Type} {enc : TypeId × Value → H} {P : Program} {tys : List Nat} (hp : plainAll P tys = true) {W : World} {base t : Nat} {v : Value} {d : DataW H} {p : List MemPlace} (ht : t ∈ tys)
  (hv : Value.okWide P W .any base t v) (h : DataW.Trod enc P W 0 (fun _ => true) true t v d p) : Rep (fun b _ => b < W.heap.size) W v (dpv d) ∧ HasT P t (dpv d) (dbulk d) := by
 obtain ⟨fuel, hf⟩ := h
 have hr := trod_reads hp fuel t _ d p ht hf
 refine ⟨?_, hr.has⟩
 cases hg : tag P t with
 | true =>
  have hag : (dpv d).isAg = true := by rw [(okc_cells hr.okc).2, hg]
  have hs : ∃ cs, v = .agg cs := by
   unfold Value.okWide at hv
   split at hv
   ·obtain ⟨cs, hcs, _⟩ := hv; exact ⟨cs, hcs⟩
   ·obtain ⟨cs, hcs, _⟩ := hv; exact ⟨cs, hcs⟩
   ·rename_i h1 h2
    unfold tag at hg
    split at hg
    ·rename_i fs hu; exact absurd hu (h1 _)
    ·rename_i n e hu; exact absurd hu (h2 _ _)
    ·cases hg
  obtain ⟨cs, rfl⟩ := hs
  have hx := cells_of_agg hag
  rw [hx]
  refine .agg cs _ (by simpa [Value.cells] using hr.len) (okc_all hr.okc) fun i c x hc hx => hr.rep i c x (by simpa [Value.cells] using hc) hx
 | false =>
  have hag : (dpv d).isAg = false := by rw [(okc_cells hr.okc).2, hg]
  have hx := cells_of_one hag
  have hvc : v.cells = #[v] := by
   cases v with
   | agg cs =>
    exfalso
    unfold Value.okWide at hv
    unfold tag at hg
    split at hv
    ·rename_i hu; simp [hu] at hg
    ·rename_i hu; simp [hu] at hg
    ·unfold Cell.okWide at hv
     split at hv <;> first | (rename_i h1 h2; cases h2; done) | skip
     unfold Cell.ok at hv
     split at hv <;> first | (rename_i h1 h2; cases h2; done) | exact hv
   | _ => rfl
  refine hr.rep 0 v _ ?_ (by rw [hx]; rfl)
  rw [hvc]; rfl
/-- what is asked of a law's function: at every argument that can come in it answers true -/
def LawOk (P : Program) (fn : Func) (f : Nat) (m : Nat) : Prop := ∀ xs : List PV, xs.length = fn.params.size → (∃ ms : List Nat, ms.length = xs.length ∧ ms.sum ≤ m ∧ ∀ (i : Nat) t x k, fn.params[i]? = some t → xs[i]? = some x → ms[i]? = some k → HasT P t x k) → Ok P f xs (.bool true)
/-- the contract of a law's row -/
theorem law_contractX {P : Program} {f : Nat} {fn : Func} {tys : List Nat} {tb m : Nat} {s : ChangeSpec} (hp : plainAll P tys = true) (hpar : ∀ t ∈ fn.params.toList, t ∈ tys) (hread : ∀ t ∈ fn.params.toList, P.readableRec t = true ∧ t < P.types.size)
  (hlo : laidOutB P = true) (hres : fn.resultTypes = #[tb]) (htb : P.underlying tb = some .bool) (hvars : s.vars = []) (hs : ∀ (H : Type) (ds : List (DataW H)), ds.length = fn.params.size → s.fn H ds = { results := [.lit (.bool true)], args := ds, vars := [] })
  {H : Type} {enc : TypeId × Value → H} (W : World) (base : Nat) (args : Array Value) (ds gs : List (DataW H)) (before : List MemPlace)
  (hok : (ds.map dpv).length = fn.params.size → (∃ ms : List Nat, ms.length = (ds.map dpv).length ∧ ms.sum ≤ m ∧ ∀ (i : Nat) t x k, fn.params[i]? = some t → (ds.map dpv)[i]? = some x → ms[i]? = some k → HasT P t x k) → Ok P f (ds.map dpv) (.bool true))
  (hval : ∀ (j : Nat) t v, fn.params[j]? = some t → args[j]? = some v → Value.okWide P W .any base t v) (hgl : GlOk (fun b _ => b < W.heap.size) W) (hm : dbulks ds ≤ m)
  (hW : DataW.Whole enc P fn.params.toList s.vars false W args.toList ds gs before) : Calls P f args W fun e W' => ∃ v, e = .returned v ∧ s.post enc P fn false true false false W args v W' := by
 have hW' := hW
 obtain ⟨p, q, hA, hV, rfl, _, _⟩ := hW
 rw [hvars] at hV
 obtain ⟨rfl, rfl⟩ := trodVars_none hV
 obtain ⟨l1, l2, l3⟩ := trodAll_inv hA
 have hreps : Reps (fun b _ => b < W.heap.size) W args (ds.map dpv) := by
  refine ⟨by simp at l1; simp [l1, l2], fun i v x hv hx => ?_⟩
  simp only [List.getElem?_map, Option.map_eq_some_iff] at hx
  obtain ⟨d, hd, rfl⟩ := hx
  have hi : i < fn.params.toList.length := by rw [← l2]; exact (List.getElem?_eq_some_iff.1 hd).1
  have ht : fn.params.toList[i]? = some (fn.params.toList[i]'hi) := List.getElem?_eq_getElem hi
  obtain ⟨pp, _, htr⟩ := l3 i _ v d ht (by rw [Array.getElem?_toList]; exact hv) hd
  exact (arg_rep hp (hpar _ (List.getElem_mem _)) (hval i _ v (by simpa using ht) hv) htr).1
 have hcall := (hok (by simp [l2]) ⟨ds.map dbulk, by simp, by rw [← dbulks_sum]; exact hm, fun i t x k ht hx hk => by
  simp only [List.getElem?_map, Option.map_eq_some_iff] at hx hk
  obtain ⟨d, hd, rfl⟩ := hx
  obtain ⟨d2, hd2, rfl⟩ := hk
  rw [hd] at hd2; cases hd2
  have hi : i < args.toList.length := by rw [l1, ← l2]; exact (List.getElem?_eq_some_iff.1 hd).1
  have hv : args.toList[i]? = some (args.toList[i]'hi) := List.getElem?_eq_getElem hi
  have ht' : fn.params.toList[i]? = some t := by rw [Array.getElem?_toList]; exact ht
  obtain ⟨pp, _, htr⟩ := l3 i t _ d ht' hv hd
  exact (arg_rep hp (hpar _ (List.mem_of_getElem? ht')) (hval i t _ ht (by rw [← Array.getElem?_toList]; exact hv)) htr).2⟩).2 (fun b _ => b < W.heap.size) W args (fun _ _ h => h) hgl hreps
 refine hcall.mono fun e W' hh => ?_
 obtain ⟨v, F', rfl, hb, _, _, _, hrep⟩ := hh
 have hv : v = .bool true := by cases hrep; rfl
 subst hv
 obtain ⟨pa, hpa⟩ := trodAll_below hlo hb hA hread
 have hsf := hs H ds (by simpa using l2)
 have hsf' : s.fn H (ds ++ []) = { results := [.lit (.bool true)], args := ds, vars := [] } := by rw [List.append_nil]; exact hsf
 refine ⟨_, rfl, ds, [], _, [], pa, [], hW', ?_, ?_, ?_, hb.frame _, fun h => by cases h⟩
 ·rw [hsf', hres]
  exact trodAll_mk1 (shut_bool htb _)
 ·rw [hsf']; exact hpa
 ·rw [hsf', hvars]; rfl
theorem law_contract {P : Program} {f : Nat} {fn : Func} {tys : List Nat} {tb m : Nat} {s : ChangeSpec} (hp : plainAll P tys = true) (hpar : ∀ t ∈ fn.params.toList, t ∈ tys) (hread : ∀ t ∈ fn.params.toList, P.readableRec t = true ∧ t < P.types.size)
  (hlo : laidOutB P = true) (hres : fn.resultTypes = #[tb]) (htb : P.underlying tb = some .bool) (hvars : s.vars = []) (hs : ∀ (H : Type) (ds : List (DataW H)), ds.length = fn.params.size → s.fn H ds = { results := [.lit (.bool true)], args := ds, vars := [] })
  (hok : LawOk P fn f m) {H : Type} {enc : TypeId × Value → H} (W : World) (base : Nat) (args : Array Value) (ds gs : List (DataW H)) (before : List MemPlace)
  (hval : ∀ (j : Nat) t v, fn.params[j]? = some t → args[j]? = some v → Value.okWide P W .any base t v) (hgl : GlOk (fun b _ => b < W.heap.size) W) (hm : dbulks ds ≤ m)
  (hW : DataW.Whole enc P fn.params.toList s.vars false W args.toList ds gs before) : Calls P f args W fun e W' => ∃ v, e = .returned v ∧ s.post enc P fn false true false false W args v W' :=
 law_contractX hp hpar hread hlo hres htb hvars hs W base args ds gs before (fun h1 h2 => hok _ h1 h2) hval hgl hm hW
end Go.Lf
/- Running texts: an evaluator, and that what it answers is so. -/
namespace Go.Lf
variable [Mk] [Gl]
open Go.RowKit
/-- what a text means, with nothing known besides -/
def T.den0 (P : Program) (K : PV → Prop) : T PV → List (List PV → Prop) → Prop
 | .ret x, _ => K x
 | .fail, _ => False
 | .l p xs k, hs => ∃ y, p.ev xs = some y ∧ (k y).den0 P K hs
 | .ite c a b, hs => (c = .bool true ∧ a.den0 P K hs) ∨ (c = .bool false ∧ b.den0 P K hs)
 | .nilq x a b, hs => ∃ l, x.unm = .sl l ∧ (l = [] → a.den0 P K hs) ∧ b.den0 P K hs
 | .call f xs k, hs => ∃ r, Ok P f xs r ∧ (k r).den0 P K hs
 | .callv x xs k, hs => ∃ r, OkV P x xs r ∧ (k r).den0 P K hs
 | .calls f s xs k, hs => ∃ ys, ys.length = s.nout ∧ OkS P f s xs ys ∧ (k ys).den0 P K hs
 | .callvs x s xs k, hs => ∃ ys, ys.length = s.nout ∧ OkVS P x s xs ys ∧ (k ys).den0 P K hs
 | .loop xs body, hs => ∃ n : Nat, (Nat.rec (motive := fun _ => List PV → Prop) (fun _ => False) (fun _ h ys => (body ys).den0 P K (hs ++ [h])) n) xs
 | .cont lvl xs, hs => match hs[lvl]? with
  | some h => h xs
  | none => False
 | .yld xs s k, hs => ∃ b s', Gl.x.step s xs = some (b, s') ∧ (k (.bool b) s').den0 P K hs
 | .callx f xs s k, hs => ∃ r s', OkX P f xs s r s' ∧ (k r s').den0 P K hs
 | .iter x n xs bodyC bodyS after, hs => ∃ l : List (List PV), ItsV P x l ∧ (∀ y ∈ l, y.length = n) ∧ (List.rec (motive := fun _ => List PV → Prop) (fun zs => (after zs).den0 P K hs)
   (fun y _ ih zs => (∃ zs', (bodyC y zs).den0 P K (hs ++ [fun us => us = zs']) ∧ ih zs') ∨ (bodyS y zs).den0 P K hs) l) xs
 | .iterS f s ins n xs bodyC bodyS after, hs => ∃ (fin : Bool) (l : List (List PV)), ItsS P f s ins fin l ∧ (∀ y ∈ l, y.length = n) ∧ (List.rec (motive := fun _ => List PV → Prop) (fun zs => fin = true ∧ (after zs).den0 P K hs)
   (fun y _ ih zs => (∃ zs', (bodyC y zs).den0 P K (hs ++ [fun us => us = zs']) ∧ ih zs') ∨ (bodyS y zs).den0 P K hs) l) xs
/-! ### what a text means grows with what the loops around mean -/
def HLe (hs hs' : List (List PV → Prop)) : Prop := ∀ (i : Nat) h, hs[i]? = some h → ∃ h', hs'[i]? = some h' ∧ ∀ ys, h ys → h' ys
theorem HLe.refl (hs : List (List PV → Prop)) : HLe hs hs := fun _ h hh => ⟨h, hh, fun _ h => h⟩
theorem HLe.snoc {hs hs' : List (List PV → Prop)} {h h' : List PV → Prop} (hl : hs.length = hs'.length) (hle : HLe hs hs') (hh : ∀ ys, h ys → h' ys) : HLe (hs ++ [h]) (hs' ++ [h']) := by
 intro i g hg
 rw [List.getElem?_append] at hg
 split at hg
 ·rename_i hi
  obtain ⟨g', h1, h2⟩ := hle i g hg
  exact ⟨g', by rw [List.getElem?_append_left (by omega)]; exact h1, h2⟩
 ·rename_i hi
  have : i - hs.length = 0 := by
   rcases Nat.eq_zero_or_pos (i - hs.length) with h0 | h0
   ·exact h0
   ·rw [List.getElem?_eq_none (by simp; omega)] at hg; cases hg
  rw [this] at hg
  simp at hg; subst hg
  exact ⟨h', by rw [List.getElem?_append_right (by omega), ← hl, this]; rfl, hh⟩
def loopN (P : Program) (K : PV → Prop) (body : List PV → T PV) (hs : List (List PV → Prop)) (n : Nat) : List PV → Prop :=
 Nat.rec (motive := fun _ => List PV → Prop) (fun _ => False) (fun _ h ys => (body ys).den0 P K (hs ++ [h])) n
theorem den_mono {P : Program} {K : PV → Prop} : ∀ (t : T PV) (hs hs' : List (List PV → Prop)), hs.length = hs'.length → HLe hs hs' → t.den0 P K hs → t.den0 P K hs' := by
 intro t
 induction t with
 | ret x => exact fun _ _ _ _ h => h
 | fail => exact fun _ _ _ _ h => h
 | l p xs k ih => exact fun hs hs' hl hle ⟨y, h1, h2⟩ => ⟨y, h1, ih y hs hs' hl hle h2⟩
 | ite c a b iha ihb => exact fun hs hs' hl hle h => h.imp (fun h => ⟨h.1, iha hs hs' hl hle h.2⟩) fun h => ⟨h.1, ihb hs hs' hl hle h.2⟩
 | nilq x a b iha ihb => exact fun hs hs' hl hle ⟨l, h1, h2, h3⟩ => ⟨l, h1, fun e => iha hs hs' hl hle (h2 e), ihb hs hs' hl hle h3⟩
 | call f xs k ih => exact fun hs hs' hl hle ⟨r, h1, h2⟩ => ⟨r, h1, ih r hs hs' hl hle h2⟩
 | callv x xs k ih => exact fun hs hs' hl hle ⟨r, h1, h2⟩ => ⟨r, h1, ih r hs hs' hl hle h2⟩
 | calls f s xs k ih => exact fun hs hs' hl hle ⟨r, h0, h1, h2⟩ => ⟨r, h0, h1, ih r hs hs' hl hle h2⟩
 | callvs x s xs k ih => exact fun hs hs' hl hle ⟨r, h0, h1, h2⟩ => ⟨r, h0, h1, ih r hs hs' hl hle h2⟩
 | loop xs body ih =>
  intro hs hs' hl hle ⟨n, h⟩
  have key : ∀ n ys, loopN P K body hs n ys → loopN P K body hs' n ys := by
   intro n
   induction n with
   | zero => exact fun _ h => h
   | succ n ihn => exact fun ys h => ih ys _ _ (by simp [hl]) (hle.snoc hl ihn) h
  exact ⟨n, key n xs h⟩
 | cont lvl xs =>
  intro hs hs' hl hle h
  unfold T.den0 at h ⊢
  split at h
  ·rename_i g hg
   obtain ⟨g', h1, h2⟩ := hle lvl g hg
   rw [h1]; exact h2 xs h
  ·exact h.elim
 | yld xs s k ih => exact fun hs hs' hl hle ⟨b, s', h1, h2⟩ => ⟨b, s', h1, ih _ _ hs hs' hl hle h2⟩
 | callx f xs s k ih => exact fun hs hs' hl hle ⟨r, s', h1, h2⟩ => ⟨r, s', h1, ih _ _ hs hs' hl hle h2⟩
 | iter x n xs bC bS after ihC ihS iha =>
  intro hs hs' hl hle ⟨l, h1, h2, h3⟩
  refine ⟨l, h1, h2, ?_⟩
  clear h1 h2
  induction l generalizing xs with
  | nil => exact iha xs hs hs' hl hle h3
  | cons y l ih => exact h3.imp (fun ⟨zs', g1, g2⟩ => ⟨zs', ihC y xs _ _ (by simp [hl]) (hle.snoc hl fun _ h => h) g1, ih zs' g2⟩) fun g => ihS y xs _ _ hl hle g
 | iterS f s ins n xs bC bS after ihC ihS iha =>
  intro hs hs' hl hle ⟨fin, l, h1, h2, h3⟩
  refine ⟨fin, l, h1, h2, ?_⟩
  clear h1 h2
  induction l generalizing xs with
  | nil => exact ⟨h3.1, iha xs hs hs' hl hle h3.2⟩
  | cons y l ih => exact h3.imp (fun ⟨zs', g1, g2⟩ => ⟨zs', ihC y xs _ _ (by simp [hl]) (hle.snoc hl fun _ h => h) g1, ih zs' g2⟩) fun g => ihS y xs _ _ hl hle g
/-- A LOOP by a count: 'I m' holds at the head with m rounds to go at most. -/
theorem den_loop {P : Program} {K : PV → Prop} {xs : List PV} {body : List PV → T PV} {hs : List (List PV → Prop)} (I : Nat → List PV → Prop) (n : Nat) (h0 : I n xs)
  (hI : ∀ m ys, I m ys → (body ys).den0 P K (hs ++ [fun zs => ∃ m', m' < m ∧ I m' zs])) : (T.loop xs body).den0 P K hs := by
 have key : ∀ n m ys, m < n → I m ys → loopN P K body hs n ys := by
  intro n
  induction n with
  | zero => intro m ys h; omega
  | succ n ih =>
   intro m ys hm hi
   refine den_mono (body ys) _ _ (by simp) ((HLe.refl hs).snoc rfl ?_) (hI m ys hi)
   rintro zs ⟨m', h1, h2⟩
   exact ih m' zs (by omega) h2
 exact ⟨n + 1, key (n + 1) n xs (by omega) h0⟩
/-- a loop whose head is told by the number of the round: 'n' full rounds, then out -/
theorem den_rounds {P : Program} {K : PV → Prop} {xs : List PV} {body : List PV → T PV} {hs : List (List PV → Prop)} (st : Nat → List PV) (n : Nat) (h0 : xs = st 0)
  (hr : ∀ i, i < n → (body (st i)).den0 P K (hs ++ [fun zs => zs = st (i + 1)])) (he : (body (st n)).den0 P K (hs ++ [fun _ => False])) : (T.loop xs body).den0 P K hs := by
 refine den_loop (fun m ys => m ≤ n ∧ ys = st (n - m)) n ⟨Nat.le_refl _, by simpa using h0⟩ ?_
 rintro m ys ⟨hm, rfl⟩
 cases m with
 | zero => exact den_mono _ _ _ (by simp) ((HLe.refl hs).snoc rfl fun _ (h : False) => h.elim) (by simpa using he)
 | succ m =>
  refine den_mono _ _ _ (by simp) ((HLe.refl hs).snoc rfl ?_) (hr (n - (m + 1)) (by omega))
  rintro zs rfl
  exact ⟨m, by omega, by omega, by congr 1; omega⟩
theorem den_of0 {P : Program} {K : PV → Prop} : ∀ (t : T PV) (hs hs' : List (List PV → Prop)), hs.length = hs'.length → HLe hs hs' → t.den0 P K hs → t.den P K hs' := by
 intro t
 induction t with
 | ret x => exact fun _ _ _ _ h => h
 | fail => exact fun _ _ _ _ h => h
 | l p xs k ih => exact fun hs hs' hl hle ⟨y, h1, h2⟩ => ⟨y, h1, fun _ => ih y hs hs' hl hle h2⟩
 | ite c a b iha ihb => exact fun hs hs' hl hle h => h.imp (fun h => ⟨h.1, iha hs hs' hl hle h.2⟩) fun h => ⟨h.1, ihb hs hs' hl hle h.2⟩
 | nilq x a b iha ihb => exact fun hs hs' hl hle ⟨l, h1, h2, h3⟩ => ⟨l, h1, fun e => iha hs hs' hl hle (h2 e), ihb hs hs' hl hle h3⟩
 | call f xs k ih => exact fun hs hs' hl hle ⟨r, h1, h2⟩ => ⟨r, h1, ih r hs hs' hl hle h2⟩
 | callv x xs k ih => exact fun hs hs' hl hle ⟨r, h1, h2⟩ => ⟨r, h1, ih r hs hs' hl hle h2⟩
 | calls f s xs k ih => exact fun hs hs' hl hle ⟨r, h0, h1, h2⟩ => ⟨r, h0, h1, ih r hs hs' hl hle h2⟩
 | callvs x s xs k ih => exact fun hs hs' hl hle ⟨r, h0, h1, h2⟩ => ⟨r, h0, h1, ih r hs hs' hl hle h2⟩
 | loop xs body ih =>
  intro hs hs' hl hle ⟨n, h⟩
  have key : ∀ n ys, loopN P K body hs n ys → (Nat.rec (motive := fun _ => List PV → Prop) (fun _ => False) (fun _ h ys => (body ys).den P K (hs' ++ [h])) n : List PV → Prop) ys := by
   intro n
   induction n with
   | zero => exact fun _ h => h
   | succ n ihn => exact fun ys h => ih ys _ _ (by simp [hl]) (hle.snoc hl ihn) h
  exact ⟨n, key n xs h⟩
 | cont lvl xs =>
  intro hs hs' hl hle h
  unfold T.den0 at h
  unfold T.den
  split at h
  ·rename_i g hg
   obtain ⟨g', h1, h2⟩ := hle lvl g hg
   rw [h1]; exact h2 xs h
  ·exact h.elim
 | yld xs s k ih => exact fun hs hs' hl hle ⟨b, s', h1, h2⟩ => ⟨b, s', h1, ih _ _ hs hs' hl hle h2⟩
 | callx f xs s k ih => exact fun hs hs' hl hle ⟨r, s', h1, h2⟩ => ⟨r, s', h1, ih _ _ hs hs' hl hle h2⟩
 | iter x n xs bC bS after ihC ihS iha =>
  intro hs hs' hl hle ⟨l, h1, h2, h3⟩
  refine ⟨l, h1, h2, ?_⟩
  clear h1 h2
  induction l generalizing xs with
  | nil => exact iha xs hs hs' hl hle h3
  | cons y l ih => exact h3.imp (fun ⟨zs', g1, g2⟩ => ⟨zs', ihC y xs _ _ (by simp [hl]) (hle.snoc hl fun _ h => h) g1, ih zs' g2⟩) fun g => ihS y xs _ _ hl hle g
 | iterS f s ins n xs bC bS after ihC ihS iha =>
  intro hs hs' hl hle ⟨fin, l, h1, h2, h3⟩
  refine ⟨fin, l, h1, h2, ?_⟩
  clear h1 h2
  induction l generalizing xs with
  | nil => exact ⟨h3.1, iha xs hs hs' hl hle h3.2⟩
  | cons y l ih => exact h3.imp (fun ⟨zs', g1, g2⟩ => ⟨zs', ihC y xs _ _ (by simp [hl]) (hle.snoc hl fun _ h => h) g1, ih zs' g2⟩) fun g => ihS y xs _ _ hl hle g
/-! ### the evaluator -/
mutual
def peq : PV → PV → Bool
 | .int k n, .int k' n' => decide (k = k') && decide (n = n')
 | .bool b, .bool b' => b == b'
 | .str s, .str s' => decide (s = s')
 | .nilI, .nilI => true
 | .nilF, .nilF => true
 | .nilP, .nilP => true
 | .agg l, .agg l' => peqs l l'
 | .tup l, .tup l' => peqs l l'
 | .sl l, .sl l' => peqs l l'
 | .fn f a c, .fn f' a' c' => Nat.beq f f' && (peqs a a' && peqs c c')
 | .box x, .box x' => peq x x'
 | .ifc t x, .ifc t' x' => Nat.beq t t' && peq x x'
 | .mp a c, .mp a' c' => peqs a a' && peqs c c'
 | _, _ => false
def peqs : List PV → List PV → Bool
 | [], [] => true
 | x :: l, x' :: l' => peq x x' && peqs l l'
 | _, _ => false
end
mutual
theorem peq_eq : ∀ {x y : PV}, peq x y = true → x = y
 | .int k n, y, h => by cases y <;> simp [peq] at h; obtain ⟨rfl, rfl⟩ := h; rfl
 | .bool b, y, h => by cases y <;> simp [peq] at h; subst h; rfl
 | .str s, y, h => by cases y <;> simp [peq] at h; subst h; rfl
 | .nilI, y, h => by cases y <;> simp [peq] at h; rfl
 | .nilF, y, h => by cases y <;> simp [peq] at h; rfl
 | .nilP, y, h => by cases y <;> simp [peq] at h; rfl
 | .agg l, y, h => by
  cases y <;> simp only [peq, Bool.false_eq_true] at h
  rw [peqs_eq h]
 | .tup l, y, h => by
  cases y <;> simp only [peq, Bool.false_eq_true] at h
  rw [peqs_eq h]
 | .sl l, y, h => by
  cases y <;> simp only [peq, Bool.false_eq_true] at h
  rw [peqs_eq h]
 | .fn f a c, y, h => by
  cases y <;> simp only [peq, Bool.false_eq_true, Bool.and_eq_true] at h
  rw [Nat.eq_of_beq_eq_true h.1, peqs_eq h.2.1, peqs_eq h.2.2]
 | .box x, y, h => by
  cases y <;> simp only [peq, Bool.false_eq_true] at h
  rw [peq_eq h]
 | .ifc t x, y, h => by
  cases y <;> simp only [peq, Bool.false_eq_true, Bool.and_eq_true] at h
  rw [Nat.eq_of_beq_eq_true h.1, peq_eq h.2]
 | .mp a c, y, h => by
  cases y <;> simp only [peq, Bool.false_eq_true, Bool.and_eq_true] at h
  rw [peqs_eq h.1, peqs_eq h.2]
theorem peqs_eq : ∀ {x y : List PV}, peqs x y = true → x = y
 | [], y, h => by cases y <;> simp [peqs] at h; rfl
 | a :: x, y, h => by
  cases y with
  | nil => simp [peqs] at h
  | cons b y =>
   simp only [peqs, Bool.and_eq_true] at h
   rw [peq_eq h.1, peqs_eq h.2]
end
def runStep (call : Nat → List PV → Option PV) (callS : Nat → Sig → List PV → Option (List PV)) (ih : T PV → List (List PV → T PV) → Option PV) (t : T PV) (st : List (List PV → T PV)) : Option PV :=
 match t with
 | .ret x => some x
 | .fail => none
 | .l p xs k => match p.ev xs with
  | some y => ih (k y) st
  | none => none
 | .ite (.bool c) a b => match c with
  | true => ih a st
  | false => ih b st
 | .nilq (.sl l) a b => match l with
  | [] => match ih a st, ih b st with
   | some r, some r' => if peq r r' then some r else none
   | _, _ => none
  | _ :: _ => ih b st
 | .call f xs k => match call f xs with
  | some y => ih (k y) st
  | none => none
 | .callv (.fn f fs cs) xs k => match call f (fs ++ xs ++ cs) with
  | some y => ih (k y) st
  | none => none
 | .calls f s xs k => match callS f s xs with
  | some ys => ih (k ys) st
  | none => none
 | .callvs (.fn f [] []) s xs k => match callS f s xs with
  | some ys => ih (k ys) st
  | none => none
 | .loop xs body => ih (body xs) (st ++ [body])
 | .cont lvl xs => match st[lvl]? with
  | some b => ih (b xs) (st.take (lvl + 1))
  | none => none
 | _ => none
def run (call : Nat → List PV → Option PV) (callS : Nat → Sig → List PV → Option (List PV)) (n : Nat) : T PV → List (List PV → T PV) → Option PV :=
 Nat.rec (motive := fun _ => T PV → List (List PV → T PV) → Option PV) (fun _ _ => none) (fun _ ih => runStep call callS ih) n
def GoodEv (P : Program) (call : Nat → List PV → Option PV) (callS : Nat → Sig → List PV → Option (List PV)) : Prop :=
 (∀ f xs r, call f xs = some r → Ok P f xs r) ∧ ∀ f s xs ys, callS f s xs = some ys → ys.length = s.nout ∧ OkS P f s xs ys
section
variable {P : Program} {call : Nat → List PV → Option PV} {callS : Nat → Sig → List PV → Option (List PV)}
def StOk (call : Nat → List PV → Option PV) (callS : Nat → Sig → List PV → Option (List PV)) (n : Nat) (st : List (List PV → T PV)) (hs : List (List PV → Prop)) (r : PV) : Prop :=
 st.length = hs.length ∧ ∀ lvl b h, st[lvl]? = some b → hs[lvl]? = some h → ∀ m, m < n → ∀ ys, run call callS m (b ys) (st.take (lvl + 1)) = some r → h ys
theorem StOk.mono {n m : Nat} {st : List (List PV → T PV)} {hs : List (List PV → Prop)} {r : PV} (h : StOk call callS n st hs r) (hm : m ≤ n) : StOk call callS m st hs r :=
 ⟨h.1, fun lvl b g h1 h2 k hk ys hr => h.2 lvl b g h1 h2 k (by omega) ys hr⟩
theorem run_sound (hG : GoodEv P call callS) {r : PV} : ∀ (n : Nat) (t : T PV) (st : List (List PV → T PV)) (hs : List (List PV → Prop)), StOk call callS n st hs r → run call callS n t st = some r → t.den0 P (· = r) hs := by
 intro n
 induction n using Nat.strongRecOn with
 | _ n ih =>
  intro t st hs hst h
  cases n with
  | zero => cases h
  | succ n =>
   change runStep call callS (run call callS n) t st = some r at h
   have hst' := hst.mono (Nat.le_succ n)
   have ihn := fun t st hs => ih n (Nat.lt_succ_self n) t st hs
   unfold runStep at h
   split at h
   ·exact Option.some.inj h
   ·cases h
   ·split at h
    ·rename_i y hy; exact ⟨y, hy, ihn _ _ _ hst' h⟩
    ·cases h
   ·rename_i c a b
    cases c with
    | true => exact .inl ⟨rfl, ihn _ _ _ hst' h⟩
    | false => exact .inr ⟨rfl, ihn _ _ _ hst' h⟩
   ·rename_i l a b
    cases l with
    | nil =>
     simp only at h
     split at h
     ·rename_i r1 r2 h1 h2
      split at h
      ·rename_i he
       have := peq_eq he
       subst this
       simp at h; subst h
       exact ⟨[], rfl, fun _ => ihn _ _ _ hst' h1, ihn _ _ _ hst' h2⟩
      ·cases h
     ·cases h
    | cons x l => exact ⟨_, rfl, (fun e => by cases e), ihn _ _ _ hst' h⟩
   ·split at h
    ·rename_i y hy; exact ⟨y, hG.1 _ _ _ hy, ihn _ _ _ hst' h⟩
    ·cases h
   ·split at h
    ·rename_i y hy; exact ⟨y, ⟨_, _, _, rfl, hG.1 _ _ _ hy⟩, ihn _ _ _ hst' h⟩
    ·cases h
   ·split at h
    ·rename_i y hy
     obtain ⟨g1, g2⟩ := hG.2 _ _ _ _ hy
     exact ⟨y, g1, g2, ihn _ _ _ hst' h⟩
    ·cases h
   ·split at h
    ·rename_i y hy
     obtain ⟨g1, g2⟩ := hG.2 _ _ _ _ hy
     exact ⟨y, g1, ⟨_, rfl, g2⟩, ihn _ _ _ hst' h⟩
    ·cases h
   ·rename_i xs body
    have key : ∀ k m ys, m < k → m ≤ n → run call callS m (body ys) (st ++ [body]) = some r → loopN P (· = r) body hs k ys := by
     intro k
     induction k with
     | zero => intro m ys hm; omega
     | succ k ihk =>
      intro m ys hm hmn hr
      refine ih m (by omega) (body ys) (st ++ [body]) (hs ++ [loopN P (· = r) body hs k]) ⟨by simp [hst.1], fun lvl b g h1 h2 m' hm' ys' hr' => ?_⟩ hr
      rcases Nat.lt_or_ge lvl st.length with hlt | hge
      ·rw [List.getElem?_append_left hlt] at h1
       rw [List.getElem?_append_left (by rw [← hst.1]; exact hlt)] at h2
       rw [List.take_append_of_le_length (by omega)] at hr'
       exact hst.2 lvl b g h1 h2 m' (by omega) ys' hr'
      ·have hl : lvl = st.length := by
        have := (List.getElem?_eq_some_iff.1 h1).1
        simp at this; omega
       subst hl
       simp at h1; subst h1
       rw [hst.1] at h2
       simp at h2; subst h2
       rw [List.take_of_length_le (by simp)] at hr'
       exact ihk m' ys' (by omega) (by omega) hr'
    exact ⟨n + 1, key (n + 1) n xs (by omega) (Nat.le_refl _) h⟩
   ·rename_i lvl xs
    split at h
    ·rename_i b hb
     unfold T.den0
     have hlt : lvl < hs.length := by rw [← hst.1]; exact (List.getElem?_eq_some_iff.1 hb).1
     have hh : hs[lvl]? = some (hs[lvl]'hlt) := List.getElem?_eq_getElem hlt
     rw [hh]
     exact hst.2 lvl b _ hb hh n (Nat.lt_succ_self n) xs h
    ·cases h
   ·cases h
/-! ### texts of functions -/
/-- the text of a function: what it comes to is what the function returns -/
def TxOk (P : Program) (f n : Nat) (t : List PV → T PV) : Prop := ∀ xs r, xs.length = n → (t xs).den0 P (· = r) [] → Ok P f xs r
def TxOkS (P : Program) (f : Nat) (s : Sig) (t : List PV → T PV) : Prop := ∀ xs ys, (t xs).den0 P (· = .tup ys) [] → OkS P f s xs ys
theorem txOk_of [XC P] {H : Hint} {plans : List (Nat × Plan)} {f n : Nat} {fn : Func} {t : List PV → T PV} (hm : P.follows .mixedOrders = true) (hf : P.funcs[f]? = some fn) (hn : (fn.name == "runtime.NumGoroutine") = false)
  (hl : fn.params.size + fn.nfree = n) (he : ∀ xs, comF pvAlg P H plans fn xs = t xs) : TxOk P f n t := fun xs r hx h => of_den hm hf hn (hx.trans hl.symm) (by rw [he]; exact den_of0 _ [] [] rfl (HLe.refl _) h)
theorem txOkS_of [XC P] {H : Hint} {plans : List (Nat × Plan)} {f : Nat} {fn : Func} {s : Sig} {t : List PV → T PV} (hm : P.follows .mixedOrders = true) (hf : P.funcs[f]? = some fn) (hn : (fn.name == "runtime.NumGoroutine") = false)
  (he : ∀ xs, comFS pvAlg P H plans s fn xs = t xs) : TxOkS P f s t := fun xs ys h => of_denS hm hf hn (by rw [he]; exact den_of0 _ [] [] rfl (HLe.refl _) h)
/-- no party: nothing is asked of it -/
theorem xc_none {P : Program} (h : Gl.x = Xt.none) : XC P := ⟨by rw [h]; intro F w vs ys bs x x' b _ _ hX; obtain ⟨_, _, _, _, hJ⟩ := hX; exact hJ.elim⟩
/-- tables of texts -/
structure Tx where
 n : Nat
 t : List PV → T PV
structure TxS where
 s : Sig
 t : List PV → T PV
def AllOk (P : Program) : List (Nat × Tx) → Prop
 | [] => True
 | p :: r => TxOk P p.1 p.2.n p.2.t ∧ AllOk P r
def AllOkS (P : Program) : List (Nat × TxS) → Prop
 | [] => True
 | p :: r => TxOkS P p.1 p.2.s p.2.t ∧ AllOkS P r
theorem allOk_at : ∀ {l : List (Nat × Tx)} {f : Nat} {t : Tx}, AllOk P l → lookE l f = some t → TxOk P f t.n t.t
 | [], _, _, _, h => by cases h
 | p :: r, f, t, ha, h => by
  obtain ⟨k, v⟩ := p
  rw [lookE_cons] at h
  split at h
  ·rename_i e; subst e; cases h; exact ha.1
  ·exact allOk_at ha.2 h
/-- by the function and the form -/
def lookS : List (Nat × TxS) → Nat → Sig → Option TxS
 | [], _, _ => none
 | p :: r, f, s => if Nat.beq p.1 f && decide (s = p.2.s) then some p.2 else lookS r f s
theorem allOkS_atS : ∀ {l : List (Nat × TxS)} {f : Nat} {s : Sig} {t : TxS}, AllOkS P l → lookS l f s = some t → TxOkS P f t.s t.t
 | [], _, _, _, _, h => by cases h
 | p :: r, f, s, t, ha, h => by
  simp only [lookS] at h
  split at h
  ·rename_i e
   simp only [Bool.and_eq_true] at e
   have := Nat.eq_of_beq_eq_true e.1
   cases h
   rw [← this]; exact ha.1
  ·exact allOkS_atS ha.2 h
/-- calls, by the tables -/
def evAll (tb : List (Nat × Tx)) (tbS : List (Nat × TxS)) (L n : Nat) : (Nat → List PV → Option PV) × (Nat → Sig → List PV → Option (List PV)) :=
 Nat.rec (motive := fun _ => (Nat → List PV → Option PV) × (Nat → Sig → List PV → Option (List PV))) (fun _ _ => none, fun _ _ _ => none)
  (fun _ ih => (fun f xs => match lookE tb f with
    | some t => if Nat.beq xs.length t.n then run ih.1 ih.2 L (t.t xs) [] else none
    | none => none,
   fun f s xs => match lookS tbS f s with
    | some t => if s = t.s then (match run ih.1 ih.2 L (t.t xs) [] with
     | some (.tup ys) => if Nat.beq ys.length s.nout then some ys else none
     | _ => none) else none
    | none => none)) n
theorem evAll_good {tb : List (Nat × Tx)} {tbS : List (Nat × TxS)} {L : Nat} (h1 : AllOk P tb) (h2 : AllOkS P tbS) : ∀ n, GoodEv P (evAll tb tbS L n).1 (evAll tb tbS L n).2
 | 0 => ⟨(fun f xs r h => by cases h), (fun f s xs ys h => by cases h)⟩
 | n + 1 => by
  have ih := evAll_good h1 h2 (L := L) n
  refine ⟨fun f xs r h => ?_, fun f s xs ys h => ?_⟩
  ·have h : (match lookE tb f with
    | some t => if Nat.beq xs.length t.n then run (evAll tb tbS L n).1 (evAll tb tbS L n).2 L (t.t xs) [] else none
    | none => none) = some r := h
   split at h
   ·rename_i t ht
    split at h
    ·rename_i hl
     exact allOk_at h1 ht xs r (Nat.eq_of_beq_eq_true hl) (run_sound ih L _ [] [] ⟨rfl, fun lvl b g h1 => by simp at h1⟩ h)
    ·cases h
   ·cases h
  ·have h : (match lookS tbS f s with
    | some t => if s = t.s then (match run (evAll tb tbS L n).1 (evAll tb tbS L n).2 L (t.t xs) [] with
     | some (.tup ys) => if Nat.beq ys.length s.nout then some ys else none
     | _ => none) else none
    | none => none) = some ys := h
   split at h
   ·rename_i t ht
    split at h
    ·rename_i hsm
     have := hsm
     split at h
     ·rename_i zs hz
      split at h
      ·rename_i hl
       simp at h; subst h
       refine ⟨Nat.eq_of_beq_eq_true hl, ?_⟩
       rw [this]
       exact allOkS_atS h2 ht xs _ (run_sound ih L _ [] [] ⟨rfl, fun lvl b g h1 => by simp at h1⟩ hz)
      ·cases h
     ·cases h
    ·cases h
   ·cases h
end
end Go.Lf
/-! short names for texts -/
namespace Go.Lf.S
abbrev n (l : List PV) (k : Nat) : PV := l.getD k .nilI
abbrev c (o : Nat) (x : PV) : PV := x.cells.getD o .nilI
abbrev sb (o m : Nat) (x : PV) : PV := .agg ((x.cells.drop o).take m)
abbrev i (k : Int) : PV := .int .i64 k
end Go.Lf.S
/- Steps through texts. -/
namespace Go.Lf
variable [Mk] [Gl]
open Go.RowKit
section
variable {P : Program} {K : PV → Prop} {hs : List (List PV → Prop)}
theorem d_l {p : Prim} {xs : List PV} {k : PV → T PV} (y : PV) (h : p.ev xs = some y) (hk : True → (k y).den0 P K hs) : (T.l p xs k).den0 P K hs := ⟨y, h, hk trivial⟩
theorem d_ite {c : Bool} {a b : T PV} (ha : c = true → a.den0 P K hs) (hb : c = false → b.den0 P K hs) : (T.ite (.bool c) a b).den0 P K hs := by
 cases c with
 | true => exact .inl ⟨rfl, ha rfl⟩
 | false => exact .inr ⟨rfl, hb rfl⟩
/-- a test that is decided -/
theorem d_dec {p : Prop} [Decidable p] {a b : T PV} (ha : p → a.den0 P K hs) (hb : ¬ p → b.den0 P K hs) : (T.ite (.bool (decide p)) a b).den0 P K hs :=
 d_ite (fun h => ha (of_decide_eq_true h)) (fun h => hb (of_decide_eq_false h))
theorem d_ndec {p : Prop} [Decidable p] {a b : T PV} (ha : ¬ p → a.den0 P K hs) (hb : p → b.den0 P K hs) : (T.ite (.bool (!decide p)) a b).den0 P K hs :=
 d_ite (fun h => ha (of_decide_eq_false (by simpa using h))) (fun h => hb (of_decide_eq_true (by simpa using h)))
theorem d_true {a b : T PV} (ha : a.den0 P K hs) : (T.ite (.bool true) a b).den0 P K hs := .inl ⟨rfl, ha⟩
theorem d_false {a b : T PV} (hb : b.den0 P K hs) : (T.ite (.bool false) a b).den0 P K hs := .inr ⟨rfl, hb⟩
theorem d_call {f : Nat} {xs : List PV} {k : PV → T PV} {r : PV} (h : Ok P f xs r) (hk : (k r).den0 P K hs) : (T.call f xs k).den0 P K hs := ⟨r, h, hk⟩
theorem d_callv {f : Nat} {fs cs xs : List PV} {k : PV → T PV} {r : PV} (h : Ok P f (fs ++ xs ++ cs) r) (hk : (k r).den0 P K hs) : (T.callv (.fn f fs cs) xs k).den0 P K hs := ⟨r, ⟨f, fs, cs, rfl, h⟩, hk⟩
theorem d_calls {f : Nat} {s : Sig} {xs : List PV} {k : List PV → T PV} {ys : List PV} (hl : ys.length = s.nout) (h : OkS P f s xs ys) (hk : (k ys).den0 P K hs) : (T.calls f s xs k).den0 P K hs := ⟨ys, hl, h, hk⟩
theorem d_ret {x : PV} (h : K x) : (T.ret x).den0 P K hs := h
end
theorem hasT_int {P : Program} {t : Nat} {k : IntKind} {x : PV} {m : Nat} (ht : P.underlying t = some (.int k)) (h : HasT P t x m) : ∃ n, x = .int k n ∧ k.min ≤ n ∧ n ≤ k.max := by
 cases h with
 | int _ k' n _ ht' hw =>
  rw [ht] at ht'
  cases ht'
  simp only [Lit.wf, Bool.and_eq_true, decide_eq_true_eq] at hw
  exact ⟨n, rfl, hw⟩
 | bool _ _ _ ht' => rw [ht] at ht'; cases ht'
 | str _ _ _ ht' => rw [ht] at ht'; cases ht'
 | sl _ _ _ _ _ ht' => rw [ht] at ht'; cases ht'
 | agg _ _ _ _ _ ht' => rw [ht] at ht'; cases ht'
theorem hasT_str {P : Program} {t : Nat} {x : PV} {m : Nat} (ht : P.underlying t = some .string) (h : HasT P t x m) : ∃ s, x = .str s ∧ s.size + 1 ≤ m := by
 cases h with
 | str _ s _ _ _ hm => exact ⟨s, rfl, hm⟩
 | int _ _ _ _ ht' => rw [ht] at ht'; cases ht'
 | bool _ _ _ ht' => rw [ht] at ht'; cases ht'
 | sl _ _ _ _ _ ht' => rw [ht] at ht'; cases ht'
 | agg _ _ _ _ _ ht' => rw [ht] at ht'; cases ht'
theorem hasT_sl {P : Program} {t e : Nat} {x : PV} {m : Nat} (ht : P.underlying t = some (.slice e)) (h : HasT P t x m) :
  ∃ (l : List PV) (ms : List Nat), x = .sl l ∧ ms.length = l.length ∧ ms.sum + 1 ≤ m ∧ ∀ (i : Nat) (y : PV) (k : Nat), l[i]? = some y → ms[i]? = some k → HasT P e y k := by
 cases h with
 | sl _ e' l ms _ ht' _ hl hh hm => rw [ht] at ht'; cases ht'; exact ⟨l, ms, rfl, hl, hm, hh⟩
 | int _ _ _ _ ht' => rw [ht] at ht'; cases ht'
 | bool _ _ _ ht' => rw [ht] at ht'; cases ht'
 | str _ _ _ ht' => rw [ht] at ht'; cases ht'
 | agg _ _ _ _ _ ht' => rw [ht] at ht'; cases ht'
theorem hasT_agg {P : Program} {t : Nat} {fs : Array Field} {x : PV} {m : Nat} (ht : P.underlying t = some (.struct fs)) (h : HasT P t x m) :
  ∃ (xs : List PV) (ms : List Nat), x = .agg (xs.flatMap PV.cells) ∧ xs.length = fs.size ∧ ms.length = xs.length ∧ ms.sum + 1 ≤ m ∧ ∀ (i : Nat) (f : Field) (y : PV) (k : Nat), fs[i]? = some f → xs[i]? = some y → ms[i]? = some k → HasT P f.type y k := by
 cases h with
 | agg _ fs' xs ms _ ht' h1 h2 hh hm => rw [ht] at ht'; cases ht'; exact ⟨xs, ms, rfl, h1, h2, hm, hh⟩
 | int _ _ _ _ ht' => rw [ht] at ht'; cases ht'
 | bool _ _ _ ht' => rw [ht] at ht'; cases ht'
 | str _ _ _ ht' => rw [ht] at ht'; cases ht'
 | sl _ _ _ _ _ ht' => rw [ht] at ht'; cases ht'
end Go.Lf
/- Steps of single operations on encoded data. -/
namespace Go.Lf
variable [Mk]
open S
theorem wrap_in {x : Int} (h1 : -9223372036854775808 ≤ x) (h2 : x ≤ 9223372036854775807) : IntKind.i64.wrap x = x := by
 simp only [IntKind.wrap, IntKind.signed, IntKind.bits]
 simp
 omega
theorem e_add {a b : Int} (h1 : -9223372036854775808 ≤ a + b) (h2 : a + b ≤ 9223372036854775807) : (Prim.arith .add .i64).ev [i a, i b] = some (i (a + b)) := by
 show ((arithV .add .i64 a b).map (PV.int .i64)) = _
 simp only [arithV, wrap_in h1 h2, Option.map_some]
theorem e_sub {a b : Int} (h1 : -9223372036854775808 ≤ a - b) (h2 : a - b ≤ 9223372036854775807) : (Prim.arith .sub .i64).ev [i a, i b] = some (i (a - b)) := by
 show ((arithV .sub .i64 a b).map (PV.int .i64)) = _
 simp only [arithV, wrap_in h1 h2, Option.map_some]
theorem e_inc {k : Nat} (h : k < 9223372036854775807) : (Prim.arith .add .i64).ev [i (k : Int), i 1] = some (i ((k + 1 : Nat) : Int)) := by
 rw [e_add (by omega) (by omega)]; rfl
theorem e_len {l : List PV} : Prim.len.ev [.sl l] = some (i (l.length : Int)) := rfl
theorem e_idx {n : Nat} {a : Bool} {l : List PV} {k : Nat} {x : PV} (h : l[k]? = some x) (hk : x.okc n a = true) : (Prim.idx n a).ev [.sl l, i (k : Int)] = some x := by
 show (if (0 : Int) ≤ (k : Int) then match l[(k : Int).toNat]? with
   | some x => if x.okc n a then some x else none
   | none => none else none) = _
 rw [if_pos (by omega), Int.toNat_natCast, h]
 simp only [hk, if_true]
theorem e_okc {n : Nat} {a : Bool} {x : PV} (hk : x.okc n a = true) : (Prim.okc n a).ev [x] = some x := by
 show (if x.okc n a then some x else none) = _
 rw [if_pos hk]
theorem e_lst {n : Nat} {a : Bool} {l : List PV} (hk : ∀ x ∈ l, x.okc n a = true) : (Prim.lst n a).ev l = some (.sl l) := by
 show (if l.all (·.okc n a) then some (PV.sl l) else none) = _
 rw [if_pos (List.all_eq_true.2 hk)]
theorem e_app {n : Nat} {a : Bool} {b : Nat} {l m : List PV} (hk : ∀ x ∈ m, x.okc n a = true) (h1 : (l.length + m.length) * b ≤ 140737488355328) (h2 : l.length + m.length ≤ 9223372036854775807) : (Prim.app n a b).ev [.sl l, .sl m] = some (.sl (l ++ m)) := by
 show (if m.all (·.okc n a) ∧ (l.length + m.length) * b ≤ roomB ∧ l.length + m.length ≤ maxLen then some (PV.sl (l ++ m)) else none) = _
 rw [if_pos ⟨List.all_eq_true.2 hk, h1, h2⟩]
theorem e_slcT {n : Nat} {a : Bool} {l : List PV} {k : Nat} (hk : ∀ x ∈ l, x.okc n a = true) (h : k ≤ l.length) : (Prim.slcT n a).ev [.sl l, i (k : Int)] = some (.sl (l.take k)) := by
 show (if 0 ≤ (k : Int) ∧ (k : Int) ≤ (l.length : Int) ∧ l.all (·.okc n a) then some (PV.sl (l.take (k : Int).toNat)) else none) = _
 rw [if_pos ⟨by omega, by omega, List.all_eq_true.2 hk⟩, Int.toNat_natCast]
theorem e_sidx {s : ByteArray} {k : Nat} (h : k < s.size) : (Prim.sidx).ev [.str s, i (k : Int)] = some (.int .u8 (s[k]).toNat) := by
 show (if (0 : Int) ≤ (k : Int) then (s[(k : Int).toNat]?).map fun b => PV.int .u8 b.toNat else none) = _
 rw [if_pos (by omega), Int.toNat_natCast, getElem?_pos s k h]
 rfl
theorem d_cont [Gl] {P : Program} {K : PV → Prop} {hs : List (List PV → Prop)} {lvl : Nat} {xs : List PV} {g : List PV → Prop} (h : hs[lvl]? = some g) (hg : g xs) : (T.cont lvl xs).den0 P K hs := by
 unfold T.den0; rw [h]; exact hg
theorem okc_str (s : ByteArray) : (PV.str s).okc 1 false = true := rfl
theorem all_map {α : Type} {f : α → PV} {n : Nat} {a : Bool} (h : ∀ x, (f x).okc n a = true) (l : List α) : ∀ x ∈ l.map f, x.okc n a = true := by
 intro x hx
 obtain ⟨y, _, rfl⟩ := List.mem_map.1 hx
 exact h y
end Go.Lf
/- Some answer: what a deterministic text comes to. -/
namespace Go.Lf
variable [Mk] [Gl]
/-- no question for nil: one answer -/
def T.dt : T PV → Prop
 | .ret _ => True
 | .fail => True
 | .l _ _ k => ∀ y, (k y).dt
 | .ite _ a b => a.dt ∧ b.dt
 | .nilq _ _ _ => False
 | .call _ _ k => ∀ y, (k y).dt
 | .callv _ _ k => ∀ y, (k y).dt
 | .calls _ _ _ k => ∀ ys, (k ys).dt
 | .callvs _ _ _ k => ∀ ys, (k ys).dt
 | .loop _ body => ∀ ys, (body ys).dt
 | .cont _ _ => True
 | .yld _ _ k => ∀ y z, (k y z).dt
 | .callx _ _ _ k => ∀ y z, (k y z).dt
 | .iter _ _ _ _ _ _ => False
 | .iterS _ _ _ _ _ _ _ _ => False
theorem den_ex {P : Program} {K : PV → Prop} : ∀ (t : T PV), t.dt → ∀ (hsK : List (List PV → Prop)) (hsr : PV → List (List PV → Prop)), (∀ r, (hsr r).length = hsK.length) →
  (∀ (j : Nat) g ys, hsK[j]? = some g → g ys → ∃ r, K r ∧ ∃ g', (hsr r)[j]? = some g' ∧ g' ys) → t.den0 P K hsK → ∃ r, K r ∧ t.den0 P (· = r) (hsr r) := by
 intro t
 induction t with
 | ret x => exact fun _ _ _ _ _ h => ⟨x, h, rfl⟩
 | fail => exact fun _ _ _ _ _ h => h.elim
 | l p xs k ih =>
  intro hd hsK hsr hl hh ⟨y, h1, h2⟩
  obtain ⟨r, hr, h3⟩ := ih y (hd y) hsK hsr hl hh h2
  exact ⟨r, hr, y, h1, h3⟩
 | ite c a b iha ihb =>
  intro hd hsK hsr hl hh h
  rcases h with ⟨h1, h2⟩ | ⟨h1, h2⟩
  ·obtain ⟨r, hr, h3⟩ := iha hd.1 hsK hsr hl hh h2
   exact ⟨r, hr, .inl ⟨h1, h3⟩⟩
  ·obtain ⟨r, hr, h3⟩ := ihb hd.2 hsK hsr hl hh h2
   exact ⟨r, hr, .inr ⟨h1, h3⟩⟩
 | nilq x a b iha ihb => exact fun h => h.elim
 | call f xs k ih =>
  intro hd hsK hsr hl hh ⟨y, h1, h2⟩
  obtain ⟨r, hr, h3⟩ := ih y (hd y) hsK hsr hl hh h2
  exact ⟨r, hr, y, h1, h3⟩
 | callv x xs k ih =>
  intro hd hsK hsr hl hh ⟨y, h1, h2⟩
  obtain ⟨r, hr, h3⟩ := ih y (hd y) hsK hsr hl hh h2
  exact ⟨r, hr, y, h1, h3⟩
 | calls f s xs k ih =>
  intro hd hsK hsr hl hh ⟨y, h0, h1, h2⟩
  obtain ⟨r, hr, h3⟩ := ih y (hd y) hsK hsr hl hh h2
  exact ⟨r, hr, y, h0, h1, h3⟩
 | callvs x s xs k ih =>
  intro hd hsK hsr hl hh ⟨y, h0, h1, h2⟩
  obtain ⟨r, hr, h3⟩ := ih y (hd y) hsK hsr hl hh h2
  exact ⟨r, hr, y, h0, h1, h3⟩
 | loop xs body ih =>
  intro hd hsK hsr hl hh ⟨n, h⟩
  have key : ∀ n ys, loopN P K body hsK n ys → ∃ r, K r ∧ loopN P (· = r) body (hsr r) n ys := by
   intro n
   induction n with
   | zero => exact fun _ h => h.elim
   | succ n ihn =>
    intro ys h
    refine ih ys (hd ys) (hsK ++ [loopN P K body hsK n]) (fun r => hsr r ++ [loopN P (· = r) body (hsr r) n]) (fun r => by simp [hl]) (fun j g zs hg hz => ?_) h
    rw [List.getElem?_append] at hg
    split at hg
    ·rename_i hj
     obtain ⟨r, hr, g', h1, h2⟩ := hh j g zs hg hz
     exact ⟨r, hr, g', by rw [List.getElem?_append_left (by rw [hl]; exact hj)]; exact h1, h2⟩
    ·rename_i hj
     have hj0 : j = hsK.length := by
      have := (List.getElem?_eq_some_iff.1 hg).1
      simp at this; omega
     subst hj0
     simp at hg; subst hg
     obtain ⟨r, hr, h2⟩ := ihn zs hz
     exact ⟨r, hr, _, by rw [List.getElem?_append_right (by rw [hl]; exact Nat.le_refl _), hl]; simp, h2⟩
  obtain ⟨r, hr, h2⟩ := key n xs h
  exact ⟨r, hr, n, h2⟩
 | cont lvl xs =>
  intro _ hsK hsr hl hh h
  unfold T.den0 at h
  split at h
  ·rename_i g hg
   obtain ⟨r, hr, g', h1, h2⟩ := hh lvl g xs hg h
   refine ⟨r, hr, ?_⟩
   unfold T.den0
   rw [h1]; exact h2
  ·exact h.elim
 | yld xs s k ih =>
  intro hd hsK hsr hl hh ⟨b, s', h1, h2⟩
  obtain ⟨r, hr, h3⟩ := ih _ _ (hd _ _) hsK hsr hl hh h2
  exact ⟨r, hr, b, s', h1, h3⟩
 | callx f xs s k ih =>
  intro hd hsK hsr hl hh ⟨y, s', h1, h2⟩
  obtain ⟨r, hr, h3⟩ := ih _ _ (hd _ _) hsK hsr hl hh h2
  exact ⟨r, hr, y, s', h1, h3⟩
 | iter x n xs bC bS after _ _ _ => exact fun h => h.elim
 | iterS f s ins n xs bC bS after _ _ _ => exact fun h => h.elim
/-- a function's text and what is asked of its answer: it answers, and so -/
theorem tx_ex {P : Program} {f m : Nat} {t : List PV → T PV} (h : TxOk P f m t) {K : PV → Prop} {xs : List PV} (hl : xs.length = m) (hd : (t xs).dt) (hden : (t xs).den0 P K []) : ∃ r, K r ∧ Ok P f xs r := by
 obtain ⟨r, hr, h1⟩ := den_ex (t xs) hd [] (fun _ => []) (fun _ => rfl) (fun j g ys h => by simp at h) hden
 exact ⟨r, hr, h xs r hl h1⟩
end Go.Lf
/- Steps for producers and rounds; an evaluator with known calls. -/
namespace Go.Lf
variable [Mk] [Gl]
open Go.RowKit
section
variable {P : Program} {K : PV → Prop} {hs : List (List PV → Prop)}
/-! ### an evaluator with known calls -/
end
end Go.Lf
/- Tables of texts that a row lists. -/
namespace Go.Lf
open Go.Lib
def StrsIs (P : Program) (w : World) (name : String) (ss : List (List UInt8)) : Prop := w.var? P name = some (ss.map fun b => Value.string ⟨b.toArray⟩).toArray
theorem StrsIs.cell {P : Program} {W : World} {name : String} {ss : List (List UInt8)} {g : Nat} (h : StrsIs P W name ss) (hg : P.globalNamed name = some g) (i : Nat) (hi : i < ss.length) :
  W.cell? ⟨g, i, none⟩ = some (.string ⟨(ss.getD i []).toArray⟩) := by
 have := World.var?_cell hg h i
 simpa [List.getD, hi] using this
end Go.Lf
/- The program's data: types, graphs. -/
namespace Go.Lf.Duo
open Go.Lf Go.Lf.S
inductive Ty where
 | mk (kind prio : Int) (name : ByteArray) (shift : Int) (labels : List ByteArray) (kids : List Ty)
namespace Ty
def kind : Ty → Int | mk k _ _ _ _ _ => k
def prio : Ty → Int | mk _ p _ _ _ _ => p
def name : Ty → ByteArray | mk _ _ n _ _ _ => n
def shift : Ty → Int | mk _ _ _ s _ _ => s
def labels : Ty → List ByteArray | mk _ _ _ _ l _ => l
def kids : Ty → List Ty | mk _ _ _ _ _ k => k
mutual
def enc : Ty → PV
 | mk k p n s ls ks => .agg [.int .i64 k, .int .i64 p, .str n, .int .i64 s, .sl (ls.map .str), .sl (encs ks)]
def encs : List Ty → List PV
 | [] => []
 | k :: ks => enc k :: encs ks
end
mutual
/-- how many nodes -/
def sz : Ty → Nat
 | mk _ _ _ _ _ ks => szs ks + 1
def szs : List Ty → Nat
 | [] => 0
 | k :: ks => sz k + szs ks
end
theorem encs_eq : ∀ l : List Ty, encs l = l.map enc
 | [] => by simp [encs]
 | k :: ks => by simp [encs, encs_eq ks]
theorem enc_mk (k p : Int) (n : ByteArray) (s : Int) (ls : List ByteArray) (ks : List Ty) : enc (mk k p n s ls ks) = .agg [.int .i64 k, .int .i64 p, .str n, .int .i64 s, .sl (ls.map .str), .sl (ks.map enc)] := by
 simp only [enc, encs_eq]
theorem okc_enc (t : Ty) : t.enc.okc 6 true = true := by
 cases t; simp [enc_mk, PV.okc, PV.cells, PV.isAg, PV.isCell]
theorem szs_mem {t : Ty} : ∀ {l : List Ty}, t ∈ l → sz t ≤ szs l
 | [], h => by cases h
 | k :: ks, h => by
  simp only [szs]
  rcases List.mem_cons.1 h with rfl | h
  ·omega
  ·have := szs_mem h; omega
theorem sz_kid {t k : Ty} (h : k ∈ t.kids) : sz k < sz t := by
 cases t with
 | mk a b c d e ks =>
  have := szs_mem (l := ks) h
  simp only [sz]; omega
theorem ind {p : Ty → Prop} (h : ∀ t, (∀ k ∈ t.kids, p k) → p t) : ∀ t, p t := by
 have : ∀ n t, sz t < n → p t := by
  intro n
  induction n with
  | zero => intro t h; omega
  | succ n ih => exact fun t ht => h t fun k hk => ih k (by have := sz_kid hk; omega)
 exact fun t => this (sz t + 1) t (by omega)
end Ty
structure Rf where
 node : Int
 shift : Int
def Rf.enc (r : Rf) : PV := .agg [.int .i64 r.node, .int .i64 r.shift]
theorem Rf.okc_enc (r : Rf) : r.enc.okc 2 true = true := rfl
structure Nd where
 kind : Int
 prio : Int
 labels : List ByteArray
 next : List Rf
def Nd.enc (d : Nd) : PV := .agg [.int .i64 d.kind, .int .i64 d.prio, .sl (d.labels.map .str), .sl (d.next.map Rf.enc)]
theorem Nd.okc_enc (d : Nd) : d.enc.okc 4 true = true := rfl
/-- a text is in a list -/
def memB (s : ByteArray) (l : List ByteArray) : Bool := l.any fun x => decide (x = s)
theorem memB_iff {s : ByteArray} {l : List ByteArray} : memB s l = true ↔ s ∈ l := by
 simp only [memB, List.any_eq_true, decide_eq_true_eq]
 exact ⟨fun ⟨x, h1, h2⟩ => h2 ▸ h1, fun h => ⟨s, h, rfl⟩⟩
/-! ### what a right type is like -/
/-- lengths as they can come in -/
inductive Lim : Ty → Prop
 | mk (t : Ty) (hn : t.name.size ≤ maxLen) (hl : ∀ s ∈ t.labels, s.size ≤ maxLen) (hll : t.labels.length ≤ maxLen) (hk : t.kids.length ≤ maxLen) (h : ∀ k ∈ t.kids, Lim k) : Lim t
section
variable [Mk] [Gl] {P : Program} {tT tI tS tLS tLT : Nat} {fs : Array Field}
theorem hasT_bound {t : Nat} {s : ByteArray} {m : Nat} (h : HasT P t (.str s) m) : s.size ≤ maxLen := by
 cases h with
 | str _ _ _ _ hw => exact hw
theorem hasT_len {t : Nat} {l : List PV} {m : Nat} (h : HasT P t (.sl l) m) : l.length ≤ maxLen := by
 cases h with
 | sl _ _ _ _ _ _ hl => exact hl
theorem strs_of (hS : P.underlying tS = some .string) {t : Nat} (ht : P.underlying t = some (.slice tS)) {x : PV} {m : Nat} (h : HasT P t x m) : ∃ ls : List ByteArray, x = .sl (ls.map .str) ∧ ls.length ≤ maxLen ∧ ∀ s ∈ ls, s.size ≤ maxLen := by
 have hlen := fun (l : List PV) (e : x = .sl l) => hasT_len (m := m) (e ▸ h)
 obtain ⟨l, ms, rfl, hl, _, hh⟩ := hasT_sl ht h
 have key : ∀ l : List PV, (∀ y ∈ l, ∃ s : ByteArray, y = .str s ∧ s.size ≤ maxLen) → ∃ ls : List ByteArray, l = ls.map .str ∧ ∀ s ∈ ls, s.size ≤ maxLen := by
  intro l
  induction l with
  | nil => exact fun _ => ⟨[], rfl, fun _ h => by cases h⟩
  | cons y l ih =>
   intro hy
   obtain ⟨s, rfl, hs⟩ := hy _ List.mem_cons_self
   obtain ⟨ls, rfl, hls⟩ := ih fun y h => hy y (List.mem_cons_of_mem _ h)
   refine ⟨s :: ls, rfl, fun s' h' => ?_⟩
   rcases List.mem_cons.1 h' with e | e
   ·rw [e]; exact hs
   ·exact hls s' e
 obtain ⟨ls, rfl, hls⟩ := key l fun y hy => by
  obtain ⟨i, hi, rfl⟩ := List.getElem_of_mem hy
  have := hh i l[i] (ms[i]'(by omega)) (List.getElem?_eq_getElem hi) (List.getElem?_eq_getElem (by omega))
  have hb := this
  obtain ⟨s, e, _⟩ := hasT_str hS this
  rw [e] at hb
  exact ⟨s, e, hasT_bound hb⟩
 refine ⟨ls, rfl, ?_, hls⟩
 simpa using hlen _ rfl
/-- six fields -/
theorem six {xs : List PV} (h : xs.length = 6) : ∃ a b c d e f, xs = [a, b, c, d, e, f] := by
 match xs, h with
 | [a, b, c, d, e, f], _ => exact ⟨a, b, c, d, e, f, rfl⟩
/-- a type that comes in -/
theorem ty_of (hT : P.underlying tT = some (.struct fs)) (hf : fs.toList.map (·.type) = [tI, tI, tS, tI, tLS, tLT]) (hI : P.underlying tI = some (.int .i64)) (hS : P.underlying tS = some .string)
  (hLS : P.underlying tLS = some (.slice tS)) (hLT : P.underlying tLT = some (.slice tT)) {t : Nat} {x : PV} {m : Nat} (h : HasT P t x m) :
  (t = tT → ∃ ty : Ty, x = ty.enc ∧ Lim ty) ∧ (t = tLT → ∃ l : List Ty, x = .sl (l.map Ty.enc) ∧ l.length ≤ maxLen ∧ ∀ ty ∈ l, Lim ty) := by
 have nT : tT ≠ tLT := fun e => by rw [e, hLT] at hT; cases hT
 induction h with
 | int t k n m ht => exact ⟨(fun e => by rw [e, hT] at ht; cases ht), fun e => by rw [e, hLT] at ht; cases ht⟩
 | bool t b m ht => exact ⟨(fun e => by rw [e, hT] at ht; cases ht), fun e => by rw [e, hLT] at ht; cases ht⟩
 | str t s m ht => exact ⟨(fun e => by rw [e, hT] at ht; cases ht), fun e => by rw [e, hLT] at ht; cases ht⟩
 | sl t e l ms m ht hl hms hh hm ih =>
  refine ⟨(fun e => by rw [e, hT] at ht; cases ht), fun et => ?_⟩
  subst et
  rw [hLT] at ht; cases ht
  have key : ∀ l : List PV, (∀ y ∈ l, ∃ ty : Ty, y = ty.enc ∧ Lim ty) → ∃ ls : List Ty, l = ls.map Ty.enc ∧ ∀ ty ∈ ls, Lim ty := by
   intro l
   induction l with
   | nil => exact fun _ => ⟨[], rfl, fun _ h => by cases h⟩
   | cons y l ih =>
    intro hy
    obtain ⟨s, rfl, hs⟩ := hy _ List.mem_cons_self
    obtain ⟨ls, rfl, hls⟩ := ih fun y h => hy y (List.mem_cons_of_mem _ h)
    refine ⟨s :: ls, rfl, fun s' h' => ?_⟩
    rcases List.mem_cons.1 h' with e | e
    ·rw [e]; exact hs
    ·exact hls s' e
  obtain ⟨ls, rfl, hls⟩ := key l fun y hy => by
   obtain ⟨i, hi, rfl⟩ := List.getElem_of_mem hy
   exact (ih i l[i] (ms[i]'(by omega)) (List.getElem?_eq_getElem hi) (List.getElem?_eq_getElem (by omega))).1 rfl
  exact ⟨ls, rfl, by simpa using hl, hls⟩
 | agg t fs' xs ms m ht hl hms hh hm ih =>
  refine ⟨fun et => ?_, fun e => by rw [e, hLT] at ht; cases ht⟩
  subst et
  rw [hT] at ht; cases ht
  have h6 : xs.length = 6 := by
   have := congrArg List.length hf
   simp at this; omega
  obtain ⟨a, b, c, d, e, f, rfl⟩ := six h6
  have at_ : ∀ (i : Nat) (y : PV) (u : Nat), [a, b, c, d, e, f][i]? = some y → (fs.toList.map (·.type))[i]? = some u → ∃ fd k, fs[i]? = some fd ∧ fd.type = u ∧ ms[i]? = some k := by
   intro i y u hy hu
   have hi := (List.getElem?_eq_some_iff.1 hy).1
   simp only [List.getElem?_map, Option.map_eq_some_iff] at hu
   obtain ⟨fd, hfd, hu⟩ := hu
   have him : i < ms.length := by rw [hms]; exact hi
   exact ⟨fd, ms[i], by rw [← Array.getElem?_toList]; exact hfd, hu, List.getElem?_eq_getElem him⟩
  have fld : ∀ (i : Nat) (y : PV) (u : Nat), [a, b, c, d, e, f][i]? = some y → (fs.toList.map (·.type))[i]? = some u → ∃ k, HasT P u y k := by
   intro i y u hy hu
   obtain ⟨fd, k, h1, h2, h3⟩ := at_ i y u hy hu
   exact ⟨k, h2 ▸ hh i fd y k h1 hy h3⟩
  rw [hf] at fld
  obtain ⟨k0, h0⟩ := fld 0 a tI rfl rfl
  obtain ⟨k1, h1⟩ := fld 1 b tI rfl rfl
  obtain ⟨k2, h2⟩ := fld 2 c tS rfl rfl
  obtain ⟨k3, h3⟩ := fld 3 d tI rfl rfl
  obtain ⟨k4, h4⟩ := fld 4 e tLS rfl rfl
  obtain ⟨fd5, k5, g1, g2, g3⟩ := at_ 5 f tLT rfl (by rw [hf]; rfl)
  obtain ⟨ks, rfl, hks, hkl⟩ := (ih 5 fd5 f k5 g1 rfl g3).2 g2
  obtain ⟨n0, rfl, _⟩ := hasT_int hI h0
  obtain ⟨n1, rfl, _⟩ := hasT_int hI h1
  obtain ⟨n3, rfl, _⟩ := hasT_int hI h3
  obtain ⟨s2, e2, _⟩ := hasT_str hS h2
  subst e2
  obtain ⟨ls, e4, hl1, hl2⟩ := strs_of hS hLS h4
  subst e4
  refine ⟨.mk n0 n1 s2 n3 ls ks, ?_, .mk _ (hasT_bound h2) hl2 hl1 hks hkl⟩
  rw [Ty.enc_mk]; rfl
/-- two fields -/
theorem two_of {t ta tb : Nat} {gs : Array Field} (ht : P.underlying t = some (.struct gs)) (hg : gs.toList.map (·.type) = [ta, tb]) {x : PV} {m : Nat} (h : HasT P t x m) :
  ∃ a b k1 k2, x = .agg (a.cells ++ b.cells) ∧ HasT P ta a k1 ∧ HasT P tb b k2 := by
 obtain ⟨xs, ms, rfl, h1, h2, _, hh⟩ := hasT_agg ht h
 have hs : gs.size = 2 := by
  have := congrArg List.length hg
  simp at this; omega
 rw [hs] at h1
 match xs, h1 with
 | [a, b], _ =>
  match ms, h2 with
  | [k1, k2], _ =>
   match gs, hg, hh with
   | ⟨[f1, f2]⟩, hg, hh =>
    simp only [List.map_cons, List.map_nil, List.cons.injEq, and_true] at hg
    obtain ⟨rfl, rfl⟩ := hg
    exact ⟨a, b, k1, k2, by simp, hh 0 f1 a k1 rfl rfl rfl, hh 1 f2 b k2 rfl rfl rfl⟩
/-- a name and its reference -/
structure En where
 name : ByteArray
 r : Rf
def En.enc (e : En) : PV := .agg [.str e.name, i e.r.node, i e.r.shift]
theorem En.okc_enc (e : En) : e.enc.okc 3 true = true := rfl
/-- a name and its type -/
structure Et where
 name : ByteArray
 t : Ty
def Et.enc (e : Et) : PV := .agg (.str e.name :: e.t.enc.cells)
theorem Et.okc_enc (e : Et) : e.enc.okc 7 true = true := by
 obtain ⟨s, t⟩ := e
 cases t; simp [Et.enc, Ty.enc_mk, PV.okc, PV.cells, PV.isAg, PV.isCell]
/-- a list that comes in, with what is known of its elements -/
theorem list_ofP {α : Type} {f : α → PV} {Q : α → Prop} {t e : Nat} (ht : P.underlying t = some (.slice e)) (he : ∀ y k, HasT P e y k → ∃ a, y = f a ∧ Q a) {x : PV} {m : Nat} (h : HasT P t x m) : ∃ l : List α, x = .sl (l.map f) ∧ l.length ≤ maxLen ∧ ∀ a ∈ l, Q a := by
 have hlen := fun (l : List PV) (e : x = .sl l) => hasT_len (m := m) (e ▸ h)
 obtain ⟨l, ms, rfl, hl, _, hh⟩ := hasT_sl ht h
 have key : ∀ l : List PV, (∀ y ∈ l, ∃ a : α, y = f a ∧ Q a) → ∃ ls : List α, l = ls.map f ∧ ∀ a ∈ ls, Q a := by
  intro l
  induction l with
  | nil => exact fun _ => ⟨[], rfl, fun _ h => by cases h⟩
  | cons y l ih =>
   intro hy
   obtain ⟨s, rfl, hs⟩ := hy _ List.mem_cons_self
   obtain ⟨ls, rfl, hls⟩ := ih fun y h => hy y (List.mem_cons_of_mem _ h)
   refine ⟨s :: ls, rfl, fun a ha => ?_⟩
   rcases List.mem_cons.1 ha with e | e
   ·rw [e]; exact hs
   ·exact hls a e
 obtain ⟨ls, rfl, hls⟩ := key l fun y hy => by
  obtain ⟨i, hi, rfl⟩ := List.getElem_of_mem hy
  exact he _ _ (hh i l[i] (ms[i]'(by omega)) (List.getElem?_eq_getElem hi) (List.getElem?_eq_getElem (by omega)))
 exact ⟨ls, rfl, by simpa using hlen _ rfl, hls⟩
end
end Go.Lf.Duo
/- The program's data (2): processes, programs. -/
namespace Go.Lf.Duo
open Go.Lf Go.Lf.S
/-- the cells of a type -/
def Ty.cs (t : Ty) : List PV := [i t.kind, i t.prio, .str t.name, i t.shift, .sl (t.labels.map .str), .sl (t.kids.map Ty.enc)]
theorem Ty.enc_cs (t : Ty) : t.enc = .agg t.cs := by cases t; rw [Ty.enc_mk]; rfl
theorem Ty.cells_enc (t : Ty) : t.enc.cells = t.cs := by rw [Ty.enc_cs]; rfl
structure Vl where
 kind : Int
 name : ByteArray
 n : Int
def Vl.enc (v : Vl) : PV := .agg [i v.kind, .str v.name, i v.n]
theorem Vl.okc_enc (v : Vl) : v.enc.okc 3 true = true := rfl
inductive Pr where
 | mk (kind : Int) (chan var : ByteArray) (labels : List ByteArray) (args : List Vl) (t : Ty) (kids : List Pr)
namespace Pr
def kind : Pr → Int | mk k _ _ _ _ _ _ => k
def chan : Pr → ByteArray | mk _ c _ _ _ _ _ => c
def var : Pr → ByteArray | mk _ _ v _ _ _ _ => v
def labels : Pr → List ByteArray | mk _ _ _ l _ _ _ => l
def args : Pr → List Vl | mk _ _ _ _ a _ _ => a
def t : Pr → Ty | mk _ _ _ _ _ t _ => t
def kids : Pr → List Pr | mk _ _ _ _ _ _ k => k
mutual
def enc : Pr → PV
 | mk k ch v ls as t ks => .agg [i k, .str ch, .str v, .sl (ls.map .str), .sl (as.map Vl.enc), i t.kind, i t.prio, .str t.name, i t.shift, .sl (t.labels.map .str), .sl (t.kids.map Ty.enc), .sl (encs ks)]
def encs : List Pr → List PV
 | [] => []
 | k :: ks => enc k :: encs ks
end
mutual
def sz : Pr → Nat
 | mk _ _ _ _ _ _ ks => szs ks + 1
def szs : List Pr → Nat
 | [] => 0
 | k :: ks => sz k + szs ks
end
theorem encs_eq : ∀ l : List Pr, encs l = l.map enc
 | [] => by simp [encs]
 | k :: ks => by simp [encs, encs_eq ks]
theorem enc_mk (k : Int) (ch v : ByteArray) (ls : List ByteArray) (as : List Vl) (t : Ty) (ks : List Pr) :
  enc (mk k ch v ls as t ks) = .agg [i k, .str ch, .str v, .sl (ls.map .str), .sl (as.map Vl.enc), i t.kind, i t.prio, .str t.name, i t.shift, .sl (t.labels.map .str), .sl (t.kids.map Ty.enc), .sl (ks.map enc)] := by
 simp only [enc, encs_eq]
theorem okc_enc (p : Pr) : p.enc.okc 12 true = true := by
 cases p; simp [enc_mk, PV.okc, PV.cells, PV.isAg, PV.isCell]
theorem szs_mem {p : Pr} : ∀ {l : List Pr}, p ∈ l → sz p ≤ szs l
 | [], h => by cases h
 | k :: ks, h => by
  simp only [szs]
  rcases List.mem_cons.1 h with rfl | h
  ·omega
  ·have := szs_mem h; omega
theorem sz_kid {p k : Pr} (h : k ∈ p.kids) : sz k < sz p := by
 cases p with
 | mk a b c d e f ks =>
  have := szs_mem (l := ks) h
  simp only [sz]; omega
theorem ind {p : Pr → Prop} (h : ∀ t, (∀ k ∈ t.kids, p k) → p t) : ∀ t, p t := by
 have : ∀ n t, sz t < n → p t := by
  intro n
  induction n with
  | zero => intro t h; omega
  | succ n ih => exact fun t ht => h t fun k hk => ih k (by have := sz_kid hk; omega)
 exact fun t => this (sz t + 1) t (by omega)
end Pr
/-- lengths as they can come in -/
inductive PLim : Pr → Prop
 | mk (p : Pr) (hc : p.chan.size ≤ maxLen) (hv : p.var.size ≤ maxLen) (hl : ∀ s ∈ p.labels, s.size ≤ maxLen) (hll : p.labels.length ≤ maxLen) (ha : ∀ a ∈ p.args, a.name.size ≤ maxLen) (hal : p.args.length ≤ maxLen) (ht : Lim p.t)
   (hk : p.kids.length ≤ maxLen) (h : ∀ k ∈ p.kids, PLim k) : PLim p
/-- a definition, a program -/
structure Df where
 name : ByteArray
 params : List Et
 body : Pr
def Df.enc (d : Df) : PV := .agg (.str d.name :: .sl (d.params.map Et.enc) :: d.body.enc.cells)
theorem Df.okc_enc (d : Df) : d.enc.okc 14 true = true := by
 obtain ⟨s, ps, p⟩ := d
 cases p; simp [Df.enc, Pr.enc_mk, PV.okc, PV.cells, PV.isAg, PV.isCell]
structure Pg where
 defs : List Df
 main : Pr
def Pg.enc (p : Pg) : PV := .agg (.sl (p.defs.map Df.enc) :: p.main.enc.cells)
theorem Pg.okc_enc (p : Pg) : p.enc.okc 13 true = true := by
 obtain ⟨ds, p⟩ := p
 cases p; simp [Pg.enc, Pr.enc_mk, PV.okc, PV.cells, PV.isAg, PV.isCell]
structure ELim (e : Et) : Prop where
 name : e.name.size ≤ maxLen
 t : Lim e.t
structure DLim (d : Df) : Prop where
 name : d.name.size ≤ maxLen
 len : d.params.length ≤ maxLen
 params : ∀ e ∈ d.params, ELim e
 body : PLim d.body
structure GLim (p : Pg) : Prop where
 len : p.defs.length ≤ maxLen
 defs : ∀ d ∈ p.defs, DLim d
 main : PLim p.main
section
variable [Mk] [Gl] {P : Program}
theorem three_of {t ta tb tc : Nat} {gs : Array Field} (ht : P.underlying t = some (.struct gs)) (hg : gs.toList.map (·.type) = [ta, tb, tc]) {x : PV} {m : Nat} (h : HasT P t x m) :
  ∃ a b c k1 k2 k3, x = .agg (a.cells ++ (b.cells ++ c.cells)) ∧ HasT P ta a k1 ∧ HasT P tb b k2 ∧ HasT P tc c k3 := by
 obtain ⟨xs, ms, rfl, h1, h2, _, hh⟩ := hasT_agg ht h
 have hs : gs.size = 3 := by
  have := congrArg List.length hg
  simp at this; omega
 rw [hs] at h1
 match xs, h1 with
 | [a, b, c], _ =>
  match ms, h2 with
  | [k1, k2, k3], _ =>
   match gs, hg, hh with
   | ⟨[f1, f2, f3]⟩, hg, hh =>
    simp only [List.map_cons, List.map_nil, List.cons.injEq, and_true] at hg
    obtain ⟨rfl, rfl, rfl⟩ := hg
    exact ⟨a, b, c, k1, k2, k3, by simp, hh 0 f1 a k1 rfl rfl rfl, hh 1 f2 b k2 rfl rfl rfl, hh 2 f3 c k3 rfl rfl rfl⟩
/-- a value that comes in -/
theorem vl_of {t tI tS tN : Nat} {gs : Array Field} (ht : P.underlying t = some (.struct gs)) (hg : gs.toList.map (·.type) = [tI, tS, tN]) (hI : P.underlying tI = some (.int .i64)) (hS : P.underlying tS = some .string) (hN : P.underlying tN = some (.int .i64))
  {x : PV} {m : Nat} (h : HasT P t x m) : ∃ v : Vl, x = v.enc ∧ v.name.size ≤ maxLen := by
 obtain ⟨a, b, c, k1, k2, k3, rfl, h1, h2, h3⟩ := three_of ht hg h
 obtain ⟨n1, rfl, _⟩ := hasT_int hI h1
 obtain ⟨s, e, _⟩ := hasT_str hS h2
 subst e
 obtain ⟨n3, rfl, _⟩ := hasT_int hN h3
 exact ⟨⟨n1, s, n3⟩, rfl, hasT_bound h2⟩
theorem seven {xs : List PV} (h : xs.length = 7) : ∃ a b c d e f g, xs = [a, b, c, d, e, f, g] := by
 match xs, h with
 | [a, b, c, d, e, f, g], _ => exact ⟨a, b, c, d, e, f, g, rfl⟩
/-- a process that comes in -/
theorem pr_of {tP tI tS tLS tV tLV tT tLP tN : Nat} {fs gs : Array Field} (hP : P.underlying tP = some (.struct fs)) (hf : fs.toList.map (·.type) = [tI, tS, tS, tLS, tLV, tT, tLP]) (hI : P.underlying tI = some (.int .i64)) (hS : P.underlying tS = some .string)
  (hLS : P.underlying tLS = some (.slice tS)) (hLV : P.underlying tLV = some (.slice tV)) (hV : P.underlying tV = some (.struct gs)) (hg : gs.toList.map (·.type) = [tI, tS, tN]) (hN : P.underlying tN = some (.int .i64)) (hLP : P.underlying tLP = some (.slice tP))
  (hT : ∀ x m, HasT P tT x m → ∃ ty : Ty, x = ty.enc ∧ Lim ty) {t : Nat} {x : PV} {m : Nat} (h : HasT P t x m) :
  (t = tP → ∃ p : Pr, x = p.enc ∧ PLim p) ∧ (t = tLP → ∃ l : List Pr, x = .sl (l.map Pr.enc) ∧ l.length ≤ maxLen ∧ ∀ p ∈ l, PLim p) := by
 induction h with
 | int t k n m ht => exact ⟨(fun e => by rw [e, hP] at ht; cases ht), fun e => by rw [e, hLP] at ht; cases ht⟩
 | bool t b m ht => exact ⟨(fun e => by rw [e, hP] at ht; cases ht), fun e => by rw [e, hLP] at ht; cases ht⟩
 | str t s m ht => exact ⟨(fun e => by rw [e, hP] at ht; cases ht), fun e => by rw [e, hLP] at ht; cases ht⟩
 | sl t e l ms m ht hl hms hh hm ih =>
  refine ⟨(fun e => by rw [e, hP] at ht; cases ht), fun et => ?_⟩
  subst et
  rw [hLP] at ht; cases ht
  have key : ∀ l : List PV, (∀ y ∈ l, ∃ p : Pr, y = p.enc ∧ PLim p) → ∃ ls : List Pr, l = ls.map Pr.enc ∧ ∀ p ∈ ls, PLim p := by
   intro l
   induction l with
   | nil => exact fun _ => ⟨[], rfl, fun _ h => by cases h⟩
   | cons y l ih =>
    intro hy
    obtain ⟨s, rfl, hs⟩ := hy _ List.mem_cons_self
    obtain ⟨ls, rfl, hls⟩ := ih fun y h => hy y (List.mem_cons_of_mem _ h)
    refine ⟨s :: ls, rfl, fun s' h' => ?_⟩
    rcases List.mem_cons.1 h' with e | e
    ·rw [e]; exact hs
    ·exact hls s' e
  obtain ⟨ls, rfl, hls⟩ := key l fun y hy => by
   obtain ⟨i, hi, rfl⟩ := List.getElem_of_mem hy
   exact (ih i l[i] (ms[i]'(by omega)) (List.getElem?_eq_getElem hi) (List.getElem?_eq_getElem (by omega))).1 rfl
  exact ⟨ls, rfl, by simpa using hl, hls⟩
 | agg t fs' xs ms m ht hl hms hh hm ih =>
  refine ⟨fun et => ?_, fun e => by rw [e, hLP] at ht; cases ht⟩
  subst et
  rw [hP] at ht; cases ht
  have h7 : xs.length = 7 := by
   have := congrArg List.length hf
   simp at this; omega
  obtain ⟨a, b, c, d, e, f, g, rfl⟩ := seven h7
  have at_ : ∀ (i : Nat) (y : PV) (u : Nat), [a, b, c, d, e, f, g][i]? = some y → (fs.toList.map (·.type))[i]? = some u → ∃ fd k, fs[i]? = some fd ∧ fd.type = u ∧ ms[i]? = some k := by
   intro i y u hy hu
   have hi := (List.getElem?_eq_some_iff.1 hy).1
   simp only [List.getElem?_map, Option.map_eq_some_iff] at hu
   obtain ⟨fd, hfd, hu⟩ := hu
   have him : i < ms.length := by rw [hms]; exact hi
   exact ⟨fd, ms[i], by rw [← Array.getElem?_toList]; exact hfd, hu, List.getElem?_eq_getElem him⟩
  have fld : ∀ (i : Nat) (y : PV) (u : Nat), [a, b, c, d, e, f, g][i]? = some y → (fs.toList.map (·.type))[i]? = some u → ∃ k, HasT P u y k := by
   intro i y u hy hu
   obtain ⟨fd, k, h1, h2, h3⟩ := at_ i y u hy hu
   exact ⟨k, h2 ▸ hh i fd y k h1 hy h3⟩
  rw [hf] at fld
  obtain ⟨k0, h0⟩ := fld 0 a tI rfl rfl
  obtain ⟨k1, h1⟩ := fld 1 b tS rfl rfl
  obtain ⟨k2, h2⟩ := fld 2 c tS rfl rfl
  obtain ⟨k3, h3⟩ := fld 3 d tLS rfl rfl
  obtain ⟨k4, h4⟩ := fld 4 e tLV rfl rfl
  obtain ⟨k5, h5⟩ := fld 5 f tT rfl rfl
  obtain ⟨fd6, k6, g1, g2, g3⟩ := at_ 6 g tLP rfl (by rw [hf]; rfl)
  obtain ⟨ks, rfl, hks, hkl⟩ := (ih 6 fd6 g k6 g1 rfl g3).2 g2
  obtain ⟨n0, rfl, _⟩ := hasT_int hI h0
  obtain ⟨s1, e1, _⟩ := hasT_str hS h1
  subst e1
  obtain ⟨s2, e2, _⟩ := hasT_str hS h2
  subst e2
  obtain ⟨ls, e3, hl1, hl2⟩ := strs_of hS hLS h3
  subst e3
  obtain ⟨as, e4, ha1, ha2⟩ := list_ofP hLV (fun y k hy => vl_of hV hg hI hS hN hy) h4
  subst e4
  obtain ⟨ty, e5, hty⟩ := hT _ _ h5
  subst e5
  refine ⟨.mk n0 s1 s2 ls as ty ks, ?_, .mk _ (hasT_bound h1) (hasT_bound h2) hl2 hl1 ha2 ha1 hty hks hkl⟩
  rw [Pr.enc_mk]
  simp only [List.flatMap_cons, List.flatMap_nil, Ty.cells_enc]
  rfl
/-- a definition, a program that come in -/
theorem df_of {t tS tE tLE tP : Nat} {gs : Array Field} (ht : P.underlying t = some (.struct gs)) (hg : gs.toList.map (·.type) = [tS, tLE, tP]) (hS : P.underlying tS = some .string) (hLE : P.underlying tLE = some (.slice tE))
  (hE : ∀ x m, HasT P tE x m → ∃ e : Et, x = e.enc ∧ ELim e) (hP : ∀ x m, HasT P tP x m → ∃ p : Pr, x = p.enc ∧ PLim p) {x : PV} {m : Nat} (h : HasT P t x m) : ∃ d : Df, x = d.enc ∧ DLim d := by
 obtain ⟨a, b, c, k1, k2, k3, rfl, h1, h2, h3⟩ := three_of ht hg h
 obtain ⟨s, e, _⟩ := hasT_str hS h1
 subst e
 obtain ⟨es, rfl, he1, he2⟩ := list_ofP hLE (fun y k hy => hE y k hy) h2
 obtain ⟨p, rfl, hp⟩ := hP _ _ h3
 exact ⟨⟨s, es, p⟩, rfl, hasT_bound h1, he1, he2, hp⟩
theorem pg_of {t tD tLD tP : Nat} {gs : Array Field} (ht : P.underlying t = some (.struct gs)) (hg : gs.toList.map (·.type) = [tLD, tP]) (hLD : P.underlying tLD = some (.slice tD))
  (hD : ∀ x m, HasT P tD x m → ∃ d : Df, x = d.enc ∧ DLim d) (hP : ∀ x m, HasT P tP x m → ∃ p : Pr, x = p.enc ∧ PLim p) {x : PV} {m : Nat} (h : HasT P t x m) : ∃ p : Pg, x = p.enc ∧ GLim p := by
 obtain ⟨a, b, k1, k2, rfl, h1, h2⟩ := two_of ht hg h
 obtain ⟨ds, rfl, hd1, hd2⟩ := list_ofP hLD (fun y k hy => hD y k hy) h1
 obtain ⟨p, rfl, hp⟩ := hP _ _ h2
 exact ⟨⟨ds, p⟩, rfl, hd1, hd2, hp⟩
theorem el_of {t tS tT' : Nat} {gs : Array Field} (ht : P.underlying t = some (.struct gs)) (hg : gs.toList.map (·.type) = [tS, tT']) (hS : P.underlying tS = some .string) (hT : ∀ x m, HasT P tT' x m → ∃ ty : Ty, x = ty.enc ∧ Lim ty)
  {x : PV} {m : Nat} (h : HasT P t x m) : ∃ e : Et, x = e.enc ∧ ELim e := by
 obtain ⟨a, b, k1, k2, rfl, h1, h2⟩ := two_of ht hg h
 obtain ⟨s, e, _⟩ := hasT_str hS h1
 subst e
 obtain ⟨ty, rfl, hl⟩ := hT _ _ h2
 exact ⟨⟨s, ty⟩, rfl, hasT_bound h1, hl⟩
end
end Go.Lf.Duo
