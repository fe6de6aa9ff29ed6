/- The pure machine, part d: operations on addresses, fields, elements, slices, interfaces; comparisons and sums. -/
import Derived.Test.YtecjkkofoafhaaaVcc
import Derived.Deep.AppendSrc
import Derived.Room.Entries
namespace Go.Proofs.Ytecjkkofoafhaaa.V
open Go.RowKit

section
variable {P : Program} {base : Nat} {S0 : Nat → Prop} {ρ : Loc} {H : Heap} {w : World} {S : Nat → Prop}

theorem live_ptr {b off : Nat} {v : Value} (h : PRel ρ H w S (.ptr b off) v) (hl : (H.at? b).isSome = true) : ∃ blk n, ρ b = some (blk, n) ∧ v = .pointer (some ⟨blk, off, none⟩) := by
  simp only [PRel] at h; exact h.2 hl

def isRow (H : Heap) (b : Nat) : Bool := match H.at? b with | some o => o.isRow | none => false

theorem ptrV {v : Value} (h : isPtrV v = true) : ∃ b o, v = .pointer (some ⟨b, o, none⟩) := by
  cases v with
  | pointer a => cases a with
    | none => cases h
    | some a => obtain ⟨b, o, s⟩ := a; cases s with
      | none => exact ⟨b, o, rfl⟩
      | some _ => cases h
  | _ => cases h

/-! #### the address of a field -/
def fieldAddrP (P : Program) (s : TypeId) (f : Nat) (x : PV) : Option PV :=
  match P.underlying s with
  | some (.struct fs) => match fs[f]? with
    | some fd => match szOf P fd.type with
      | some (_ + 1) => match x with
        | .ptr b off => some (.ptr b (off + fd.offset))
        | .rptr b i j => some (.rptr b i (j + fd.offset))
        | .pin t x j => some (.pin t x (j + fd.offset))
        | _ => none
      | _ => none
    | none => none
  | _ => none

theorem fieldAddr_did (hh : HRel base S0 ρ H w S) {s : TypeId} {f : Nat} {x q : PV} {v : Value} (hl : fieldAddrP P s f x = some q) (hp : PRel ρ H w S x v) :
    Did P (Instr.fieldAt s v f) base S0 ρ H w S q H := by
  unfold fieldAddrP at hl
  split at hl
  · rename_i fs hu
    split at hl
    · rename_i fd hf
      split at hl
      · rename_i n hs
        have run : ∀ blk o, v = .pointer (some ⟨blk, o, none⟩) → (Instr.fieldAt s v f).run P w = .ok (.pointer (some ⟨blk, o + fd.offset, none⟩)) w := by
          rintro blk o rfl
          simp [Instr.fieldAt, run_underlying hu, hf, Instr.sureAddr, fieldPlace, sizeOf_run hs, addr_add]
        split at hl
        · rename_i b off
          cases hl
          simp only [PRel] at hp
          obtain ⟨blk, o, rfl⟩ := ptrV hp.1.2
          refine Did.still hh (run _ _ rfl) ?_
          simp only [PRel]
          refine ⟨⟨hp.1.1, rfl⟩, fun hlive => ?_⟩
          obtain ⟨blk', m, hr, e⟩ := hp.2 hlive
          cases e
          exact ⟨_, _, hr, rfl⟩
        · rename_i b i j
          cases hl
          simp only [PRel] at hp
          obtain ⟨blk, o, rfl⟩ := ptrV hp.1.2
          refine Did.still hh (run _ _ rfl) ?_
          simp only [PRel]
          refine ⟨⟨hp.1.1, rfl⟩, fun o' ho' hrow => ?_⟩
          obtain ⟨hi, blk', m, hr, e⟩ := hp.2 o' ho' hrow
          cases e
          exact ⟨hi, _, _, hr, by rw [Nat.add_assoc]⟩
        · cases hl
          simp only [PRel] at hp
          obtain ⟨blk, off, arr, elem, fz, vs, rfl, h1⟩ := hp
          refine Did.still hh (run _ _ rfl) ?_
          simp only [PRel]
          exact ⟨blk, off, arr, elem, fz, vs, by rw [Nat.add_assoc], h1⟩
        · cases hl
      · cases hl
    · cases hl
  · cases hl

/-! #### parts of values -/
def aggCells : PV → Option (List PV)
  | .agg cs => some cs
  | .val (.agg us) => some (us.toList.map .val)
  | _ => none

theorem aggCells_rel {p : PV} {v : Value} {cs : List PV} (hc : aggCells p = some cs) (h : PRel ρ H w S p v) : ∃ us, v = .agg us ∧ PRels ρ H w S cs us.toList := by
  unfold aggCells at hc
  split at hc
  · cases hc; simp only [PRel] at h; exact h
  · cases hc; simp only [PRel] at h; subst h; exact ⟨_, rfl, PRels.vals _⟩
  · cases hc

def partP (P : Program) (T : TypeId) (cs : List PV) (off : Nat) : Option PV :=
  match szOf P T, aggOf P T with
  | some n, some g => mk g n ((cs.drop off).take n)
  | _, _ => none

theorem part_did (hh : HRel base S0 ρ H w S) {T : TypeId} {cs : List PV} {us : Array Value} {off : Nat} {q : PV} (hl : partP P T cs off = some q) (hp : PRels ρ H w S cs us.toList) :
    Did P (part T us off) base S0 ρ H w S q H := by
  unfold partP at hl
  split at hl
  · rename_i n g hs hg
    unfold mk at hl
    split at hl
    · rename_i hlen
      have hrel := (hp.drop off).take n
      have hl2 : ((us.toList.drop off).take n).length = n := by rw [← hrel.length]; exact hlen
      cases g with
      | true =>
        simp only [if_true] at hl
        cases hl
        refine Did.still hh (v := .agg (us.extract off (off + n))) ?_ ⟨_, rfl, ?_⟩
        · simp only [part, Sem.run_bind, isAgg_run hg, sizeOf_run hs, Result.andThen_ok, if_true, Sem.run_pure]
        · have : (us.extract off (off + n)).toList = (us.toList.drop off).take n := by simp
          rw [this]; exact hrel
      | false =>
        simp only [Bool.false_eq_true, if_false] at hl
        split at hl
        · rename_i p' hcs
          cases hl
          rw [hcs] at hrel
          simp only [PRels] at hrel
          obtain ⟨u, us', e, h1, h2⟩ := hrel
          subst h2
          have h0 : us[off]? = some u := by
            have : ((us.toList.drop off).take n)[0]? = some u := by rw [e]; rfl
            rw [e] at hl2
            simp only [List.length_cons, List.length_nil, Nat.zero_add] at hl2
            subst hl2
            simpa using this
          refine Did.still hh (v := u) ?_ h1
          simp only [part, Sem.run_bind, isAgg_run hg, Result.andThen_ok, Bool.false_eq_true, if_false, h0, Sem.run_pure]
        · cases hl
    · cases hl
  · cases hl

def fieldP (P : Program) (T : TypeId) (x : PV) (f : Nat) : Option PV :=
  match P.underlying T, aggCells x with
  | some (.struct fs), some cs => match fs[f]? with
    | some fd => partP P fd.type cs fd.offset
    | none => none
  | _, _ => none

theorem field_did (hh : HRel base S0 ρ H w S) {T : TypeId} {f : Nat} {x q : PV} {v : Value} (hl : fieldP P T x f = some q) (hp : PRel ρ H w S x v) :
    Did P (Instr.field T v f) base S0 ρ H w S q H := by
  unfold fieldP at hl
  split at hl
  · rename_i fs cs hu hc
    split at hl
    · rename_i fd hf
      obtain ⟨us, rfl, h1⟩ := aggCells_rel hc hp
      obtain ⟨ρ', w', S', r, g1, g2⟩ := part_did hh hl h1
      refine ⟨ρ', w', S', r, ?_, g2⟩
      simp only [Instr.field, Sem.run_bind, run_underlying hu, Result.andThen_ok, hf, asAgg, Sem.run_pure]
      exact g1
    · cases hl
  · cases hl

def extractP (x : PV) (i : Nat) : Option PV :=
  match x with
  | .tuple vs => vs[i]?
  | .val (.tuple us) => (us[i]?).map .val
  | _ => none

theorem extract_did (hh : HRel base S0 ρ H w S) {i : Nat} {x q : PV} {v : Value} (hl : extractP x i = some q) (hp : PRel ρ H w S x v) :
    Did P (Instr.extract v i) base S0 ρ H w S q H := by
  unfold extractP at hl
  split at hl
  · simp only [PRel] at hp
    obtain ⟨us, rfl, h1⟩ := hp
    obtain ⟨u, h2, h3⟩ := h1.get i q hl
    refine Did.still hh (v := u) ?_ h3
    have : us[i]? = some u := by simpa using h2
    simp [Instr.extract, this]
  · simp only [PRel] at hp
    subst hp
    rename_i us
    cases h : us[i]? with
    | none => rw [h] at hl; cases hl
    | some u =>
      rw [h] at hl
      cases hl
      refine Did.still hh (v := u) ?_ rfl
      simp [Instr.extract, h]
  · cases hl

/-! #### elements -/
def byteAt (s : ByteArray) (i : Int) : Int := ((s.data.toList.getD i.toNat 0).toNat : Int)

/-- what it comes to, if b -/
abbrev Tst := Option (Bool × PV)

def intOfP : PV → Option (IntKind × Int)
  | .val (.int k n) => some (k, n)
  | _ => none

theorem intOfP_rel {p : PV} {v : Value} {k : IntKind} {n : Int} (h : intOfP p = some (k, n)) (hp : PRel ρ H w S p v) : v = .int k n := by
  unfold intOfP at h
  split at h
  · cases h; simp only [PRel] at hp; exact hp
  · cases h

def indexAddrP (P : Program) (T : TypeId) (x ix : PV) (H : Heap) : Tst :=
  match intOfP ix, P.underlying T with
  | some (_, i), some (.slice e) => match x with
    | .rows t l _ => if szOf P e = some t.size then some (decide (0 ≤ i ∧ i < l.length), .pin t (l.getD i.toNat t.dflt) 0) else none
    | .all b => match H.at? b with
      | some o => if o.isRow ∧ szOf P e = some o.elemSize then some (decide (0 ≤ i ∧ i < o.len), .rptr b i.toNat 0) else none
      | none => none
    | .sl b off len => match H.at? b with
      | some o => if o.isRow ∧ szOf P e = some o.elemSize then some (decide (0 ≤ i ∧ i < len), .rptr b (off + i.toNat) 0) else none
      | none => none
    | .cs b off len sz => match H.at? b with
      | some (.cells _) => if szOf P e = some sz then some (decide (0 ≤ i ∧ i < len), .ptr b (off + i.toNat * sz)) else none
      | _ => none
    | _ => none
  | some (_, i), some (.array len e) => match x with
    | .ptr b off => match szOf P e with
      | some n => some (decide (0 ≤ i ∧ i < len), .ptr b (off + i.toNat * n))
      | none => none
    | _ => none
  | _, _ => none

theorem indexAddr_did (hh : HRel base S0 ρ H w S) {T : TypeId} {x ix q : PV} {v u : Value} (hl : indexAddrP P T x ix H = some (true, q)) (hp : PRel ρ H w S x v) (hi : PRel ρ H w S ix u) :
    Did P (Instr.indexAt T v u) base S0 ρ H w S q H := by
  unfold indexAddrP at hl
  split at hl
  · -- a slice
    rename_i k i e hix hu
    obtain rfl := intOfP_rel hix hi
    have run : ∀ {a : Option Addr} {len cap : Nat} {blk o n : Nat}, v = .slice a len cap → szOf P e = some n → (0 ≤ i ∧ i < len) → a = some ⟨blk, o, none⟩ →
        (Instr.indexAt T v (.int k i)).run P w = .ok (.pointer (some ⟨blk, o + i.toNat * n, none⟩)) w := by
      rintro a len cap blk o n rfl hs hin rfl
      simp [Instr.indexAt, asIntOf, run_underlying hu, hin, sizeOf_run hs, addr_add]
    split at hl
    · rename_i t l c
      split at hl
      · rename_i hs
        simp only [Option.some.injEq, Prod.mk.injEq, decide_eq_true_eq] at hl
        obtain ⟨hin, rfl⟩ := hl
        simp only [PRel] at hp
        obtain ⟨⟨a, cap, rfl, hcap, hne⟩, _⟩ := hp
        have hlt : i.toNat < l.length := by omega
        obtain ⟨blk, off, arr, elem, fz, rfl, h1, h2, h3⟩ := hne (by intro h; rw [h] at hlt; simp at hlt)
        obtain ⟨vs, h4, h5⟩ := h3 i.toNat hlt
        refine Did.still hh (run rfl hs hin rfl) ?_
        simp only [PRel]
        rw [getD_lt hlt]
        exact ⟨blk, off + i.toNat * t.size, arr, elem, fz, vs, by simp, h1, h2, h4, h5⟩
      · cases hl
    · rename_i b
      split at hl
      · rename_i o ho
        split at hl
        · rename_i hs
          simp only [Option.some.injEq, Prod.mk.injEq, decide_eq_true_eq] at hl
          obtain ⟨hin, rfl⟩ := hl
          simp only [PRel] at hp
          rcases hp.2 o ho hs.1 with ⟨blk, n, cap, hr, rfl, _⟩ | ⟨h0, _⟩
          · refine Did.still hh (run rfl hs.2 hin rfl) ?_
            simp only [PRel]
            refine ⟨⟨hp.1.1, rfl⟩, fun o' ho' _ => ?_⟩
            rw [ho] at ho'; cases ho'
            exact ⟨by omega, blk, n, hr, by simp⟩
          · omega
        · cases hl
      · cases hl
    · rename_i b off len
      split at hl
      · rename_i o ho
        split at hl
        · rename_i hs
          simp only [Option.some.injEq, Prod.mk.injEq, decide_eq_true_eq] at hl
          obtain ⟨hin, rfl⟩ := hl
          simp only [PRel] at hp
          obtain ⟨hle, ⟨blk, n, cap, hr, rfl, _⟩ | ⟨h0, _⟩⟩ := hp.2 o ho hs.1
          · refine Did.still hh (run rfl hs.2 hin rfl) ?_
            simp only [PRel]
            refine ⟨⟨hp.1.1, rfl⟩, fun o' ho' _ => ?_⟩
            rw [ho] at ho'; cases ho'
            exact ⟨by omega, blk, n, hr, by rw [Nat.add_mul]; simp⟩
          · omega
        · cases hl
      · cases hl
    · rename_i b off len sz
      split at hl
      · rename_i cells ho
        split at hl
        · rename_i hs
          simp only [Option.some.injEq, Prod.mk.injEq, decide_eq_true_eq] at hl
          obtain ⟨hin, rfl⟩ := hl
          simp only [PRel] at hp
          obtain ⟨hle, blk, n, cap, hr, rfl, _⟩ := hp.2 _ ho
          refine Did.still hh (run rfl hs hin rfl) ?_
          simp only [PRel]
          exact ⟨⟨hp.1.1, rfl⟩, fun _ => ⟨_, _, hr, rfl⟩⟩
        · cases hl
      · cases hl
    · cases hl
  · -- an array
    rename_i k i len e hix hu
    obtain rfl := intOfP_rel hix hi
    split at hl
    · rename_i b off
      split at hl
      · rename_i n hs
        simp only [Option.some.injEq, Prod.mk.injEq, decide_eq_true_eq] at hl
        obtain ⟨hin, rfl⟩ := hl
        simp only [PRel] at hp
        obtain ⟨blk, o, rfl⟩ := ptrV hp.1.2
        refine Did.still hh (v := .pointer (some ⟨blk, o + i.toNat * n, none⟩)) ?_ ?_
        · simp [Instr.indexAt, asIntOf, run_underlying hu, hin, sizeOf_run hs, Instr.sureAddr, addr_add]
        · simp only [PRel]
          refine ⟨⟨hp.1.1, rfl⟩, fun hlive => ?_⟩
          obtain ⟨blk', m, hr, e⟩ := hp.2 hlive
          cases e
          exact ⟨_, _, hr, rfl⟩
      · cases hl
    · cases hl
  · cases hl

def indexP (P : Program) (T : TypeId) (x ix : PV) : Tst :=
  match intOfP ix, P.underlying T with
  | some (_, i), some .string => match x with
    | .val (.string s) => some (decide (0 ≤ i ∧ i < s.size), .val (.int .u8 (byteAt s i)))
    | _ => none
  | some (_, i), some (.array len e) => match szOf P e, aggCells x with
    | some n, some cs => match partP P e cs (i.toNat * n) with
      | some q => some (decide (0 ≤ i ∧ i < len), q)
      | none => none
    | _, _ => none
  | _, _ => none

theorem byteAt_get {s : ByteArray} {i : Nat} (h : i < s.size) : s[i]? = some s[i] ∧ (s[i].toNat : Int) = byteAt s i := by
  refine ⟨by simp [h], ?_⟩
  unfold byteAt
  have h' : i < s.data.size := h
  have e : s.data.toList.getD i 0 = s.data[i] := by rw [getD_lt (by simpa using h')]; simp
  rw [Int.toNat_natCast, e]
  rfl

theorem index_did (hh : HRel base S0 ρ H w S) {T : TypeId} {x ix q : PV} {v u : Value} (hl : indexP P T x ix = some (true, q)) (hp : PRel ρ H w S x v) (hi : PRel ρ H w S ix u) :
    Did P (Instr.index T v u) base S0 ρ H w S q H := by
  unfold indexP at hl
  split at hl
  · rename_i k i hix hu
    obtain rfl := intOfP_rel hix hi
    split at hl
    · rename_i s
      simp only [Option.some.injEq, Prod.mk.injEq, decide_eq_true_eq] at hl
      obtain ⟨hin, rfl⟩ := hl
      simp only [PRel] at hp
      subst hp
      obtain ⟨h1, h2⟩ := byteAt_get (s := s) (i := i.toNat) (by omega)
      refine Did.still hh (v := .int .u8 (byteAt s i)) ?_ rfl
      have h3 : byteAt s ↑i.toNat = byteAt s i := by unfold byteAt; rw [Int.toNat_natCast]
      simp only [Instr.index, asIntOf, Sem.run_bind, Sem.run_pure, Result.andThen_ok, run_underlying hu, hin.1, if_true, h1, h2, h3]
    · cases hl
  · rename_i k i len e hix hu
    obtain rfl := intOfP_rel hix hi
    split at hl
    · rename_i n cs hs hc
      split at hl
      · rename_i q' hq
        simp only [Option.some.injEq, Prod.mk.injEq, decide_eq_true_eq] at hl
        obtain ⟨hin, rfl⟩ := hl
        obtain ⟨us, rfl, h1⟩ := aggCells_rel hc hp
        obtain ⟨ρ', w', S', r, g1, g2⟩ := part_did hh hq h1
        refine ⟨ρ', w', S', r, ?_, g2⟩
        simp only [Instr.index, asIntOf, Sem.run_bind, Sem.run_pure, Result.andThen_ok, run_underlying hu, hin, and_self, if_true, sizeOf_run hs]
        exact g1
      · cases hl
    · cases hl
  · cases hl

/-! #### tests and sums -/
def nilCheckP (x : PV) : Option PV :=
  match x with
  | .ptr b off => some (.ptr b off)
  | .rptr b i j => some (.rptr b i j)
  | .pin t x j => some (.pin t x j)
  | .func (.func K) a b => some (.func (.func K) a b)
  | .iface t x => some (.iface t x)
  | _ => none

theorem nilCheck_run {x q : PV} (op : Operand) {a : Operand → Value} {o : Oper} (hop : o.op = .nilCheck op) (hl : nilCheckP x = some q) (hp : PRel ρ H w S x (a op)) :
    (execOp a o).run P w = .ok (.value (a op)) w ∧ q = x := by
  unfold nilCheckP at hl
  have go : (∀ v, a op = v → (match v with | .pointer none | .nilIface | .nilFunc => False | .func (.method _) _ _ => False | _ => True) → (execOp a o).run P w = .ok (.value v) w) := by
    intro v hv hm
    unfold execOp
    simp only [hop, hv]
    cases v with
    | pointer x => cases x with
      | none => exact hm.elim
      | some _ => rfl
    | nilIface => exact hm.elim
    | nilFunc => exact hm.elim
    | func fn f c => cases fn <;> first | rfl | exact hm.elim
    | _ => rfl
  split at hl
  · cases hl
    simp only [PRel] at hp
    obtain ⟨_, _, e⟩ := ptrV hp.1.2
    exact ⟨go _ rfl (by rw [e]; trivial), rfl⟩
  · cases hl
    simp only [PRel] at hp
    obtain ⟨_, _, e⟩ := ptrV hp.1.2
    exact ⟨go _ rfl (by rw [e]; trivial), rfl⟩
  · cases hl
    simp only [PRel] at hp
    obtain ⟨_, _, _, _, _, _, e, _⟩ := hp
    exact ⟨go _ rfl (by rw [e]; trivial), rfl⟩
  · cases hl
    simp only [PRel] at hp
    obtain ⟨_, _, e, _⟩ := hp
    exact ⟨go _ rfl (by rw [e]; trivial), rfl⟩
  · cases hl
    simp only [PRel] at hp
    obtain ⟨_, e, _⟩ := hp
    exact ⟨go _ rfl (by rw [e]; trivial), rfl⟩
  · cases hl

/-- Comparing what is surely there with nil. -/
def nilEq (x : PV) (H : Heap) : Bool :=
  match x with
  | .ptr b _ => (H.at? b).isSome
  | .func .. => true
  | .iface .. => true
  | _ => false

/-- Whether two structs are the same. -/
def eqAggP (P : Program) (T : TypeId) (p q : PV) : Option Bool :=
  match aggVals p, aggVals q with
  | some l, some m => match P.eqGuardType P.depth T with
    | true => none
    | false => eqV P 20 T (.agg l.toArray) (.agg m.toArray)
  | _, _ => none

/-- A pointer that is surely none of nil's. -/
def isPtrP : PV → Bool
  | .ptr .. => true
  | .rptr .. => true
  | .pin .. => true
  | _ => false

def binOpP (P : Program) (op : BinOp) (T : TypeId) (x y : Operand) (p q : PV) : Tst :=
  match p, q with
  | .val a, .val b => match op, a, b with
    | .shl, .int k m, .int _ n => some (decide (0 ≤ n), .val (.int k (k.wrap (m * 2 ^ min n.toNat k.bits))))
    | .shr, .int k m, .int _ n => some (decide (0 ≤ n), .val (.int k (m.fdiv (2 ^ min n.toNat k.bits))))
    | .quo, .int k m, .int k' n => if k = k' then some (decide (n ≠ 0), .val (.int k (k.wrap (m.tdiv n)))) else none
    | .rem, .int k m, .int k' n => if k = k' then some (decide (n ≠ 0), .val (.int k (m.tmod n))) else none
    | op, a, b => match semPure P (do eqGuard op T x y a b; binOp op T a b) with
      | some r => some (true, .val r)
      | none => none
  | p, q => match op with
    | .eql => match eqAggP P T p q with
      | some b => some (true, .val (.bool b))
      | none => match q with
        | .val (.pointer none) => match isPtrP p, P.underlying T with
          | true, some (.pointer _) => some (true, .val (.bool false))
          | _, _ => none
        | _ => none
    | .neq => match eqAggP P T p q with
      | some b => some (true, .val (.bool !b))
      | none => match q with
        | .val (.pointer none) => match isPtrP p, P.underlying T with
          | true, some (.pointer _) => some (true, .val (.bool true))
          | _, _ => none
        | _ => none
    | _ => none

theorem eqAggP_run {T : TypeId} {x y : Operand} {p q : PV} {a b : Value} {r : Bool} (hl : eqAggP P T p q = some r) (hp : PRel ρ H w S p a) (hq : PRel ρ H w S q b) :
    ∃ xs ys, a = .agg xs ∧ b = .agg ys ∧ (Op.equalIn 10000 T a b).run P w = .ok r w ∧ ∀ op, (eqGuard op T x y a b).run P w = .ok () w := by
  unfold eqAggP at hl
  split at hl
  · rename_i l m h1 h2
    split at hl
    · cases hl
    · rename_i hg
      obtain rfl := aggVals_rel h1 hp
      obtain rfl := aggVals_rel h2 hq
      exact ⟨_, _, rfl, rfl, eqV_run 20 10000 (by omega) _ _ _ _ hl, fun op => run_eqGuard_agg w op T x y _ _ hg⟩
  · cases hl

theorem isPtrP_rel {p : PV} {v : Value} (h : isPtrP p = true) (hp : PRel ρ H w S p v) : ∃ a, v = .pointer (some a) := by
  unfold isPtrP at h
  split at h
  · simp only [PRel] at hp
    have := hp.1.2
    cases v <;> simp [isPtrV] at this
    rename_i o
    cases o <;> simp at this
    exact ⟨_, rfl⟩
  · simp only [PRel] at hp
    have := hp.1.2
    cases v <;> simp [isPtrV] at this
    rename_i o
    cases o <;> simp at this
    exact ⟨_, rfl⟩
  · simp only [PRel] at hp
    obtain ⟨_, _, _, _, _, _, rfl, _⟩ := hp
    exact ⟨_, rfl⟩
  · cases h

theorem ptr_nil_run {T : TypeId} {x y : Operand} {e : TypeId} (hu : P.underlying T = some (.pointer e)) (a : Addr) :
    (do eqGuard .eql T x y (.pointer (some a)) (.pointer none); binOp .eql T (.pointer (some a)) (.pointer none) : Sem Value).run P w = .ok (.bool false) w ∧
    (do eqGuard .neq T x y (.pointer (some a)) (.pointer none); binOp .neq T (.pointer (some a)) (.pointer none) : Sem Value).run P w = .ok (.bool true) w := by
  have he : P.pointee T = e := by simp [Program.pointee, hu]
  have := run_equal_pointer_nil (P := P) w T (some a) (by rw [he]; exact hu)
  constructor <;> simp [eqGuard, binOp, this]

theorem binOp_did (hh : HRel base S0 ρ H w S) {op : BinOp} {T : TypeId} {x y : Operand} {p q r : PV} {a b : Value} (hl : binOpP P op T x y p q = some (true, r)) (hp : PRel ρ H w S p a) (hq : PRel ρ H w S q b) :
    Did P (do eqGuard op T x y a b; binOp op T a b) base S0 ρ H w S r H := by
  unfold binOpP at hl
  split at hl
  · simp only [PRel] at hp hq
    subst hp hq
    split at hl
    · simp only [Option.some.injEq, Prod.mk.injEq, decide_eq_true_eq] at hl
      obtain ⟨hn, rfl⟩ := hl
      refine Did.still hh ?_ rfl
      simp [eqGuard, binOp, Op.shift, Int.not_lt.mpr hn]
    · simp only [Option.some.injEq, Prod.mk.injEq, decide_eq_true_eq] at hl
      obtain ⟨hn, rfl⟩ := hl
      refine Did.still hh ?_ rfl
      simp [eqGuard, binOp, Op.shift, Int.not_lt.mpr hn]
    · split at hl
      · rename_i e; subst e
        simp only [Option.some.injEq, Prod.mk.injEq, decide_eq_true_eq] at hl
        obtain ⟨hn, rfl⟩ := hl
        refine Did.still hh ?_ rfl
        simp [eqGuard, binOp, Op.intDiv, hn]
      · cases hl
    · split at hl
      · rename_i e; subst e
        simp only [Option.some.injEq, Prod.mk.injEq, decide_eq_true_eq] at hl
        obtain ⟨hn, rfl⟩ := hl
        refine Did.still hh ?_ rfl
        simp [eqGuard, binOp, Op.intDiv, hn]
      · cases hl
    · split at hl
      · rename_i r' hr
        simp only [Option.some.injEq, Prod.mk.injEq, true_and] at hl
        subst hl
        exact Did.still hh (semPure_run hr w) rfl
      · cases hl
  · split at hl
    · split at hl
      · rename_i c hc
        simp only [Option.some.injEq, Prod.mk.injEq, true_and] at hl
        subst hl
        obtain ⟨xs, ys, rfl, rfl, h1, h2⟩ := eqAggP_run (x := x) (y := y) hc hp hq
        refine Did.still hh (v := .bool c) ?_ rfl
        simp only [Sem.run_bind, h2, Result.andThen_ok, run_eql_struct, h1]
      · split at hl
        · split at hl
          · rename_i hpp hu
            simp only [Option.some.injEq, Prod.mk.injEq, true_and] at hl
            subst hl
            obtain ⟨ad, rfl⟩ := isPtrP_rel hpp hp
            simp only [PRel] at hq
            subst hq
            exact Did.still hh (v := .bool false) (ptr_nil_run hu ad).1 rfl
          · cases hl
        · cases hl
    · split at hl
      · rename_i c hc
        simp only [Option.some.injEq, Prod.mk.injEq, true_and] at hl
        subst hl
        obtain ⟨xs, ys, rfl, rfl, h1, h2⟩ := eqAggP_run (x := x) (y := y) hc hp hq
        refine Did.still hh (v := .bool !c) ?_ rfl
        simp only [Sem.run_bind, h2, Result.andThen_ok, run_neq_struct, h1]
      · split at hl
        · split at hl
          · rename_i hpp hu
            simp only [Option.some.injEq, Prod.mk.injEq, true_and] at hl
            subst hl
            obtain ⟨ad, rfl⟩ := isPtrP_rel hpp hp
            simp only [PRel] at hq
            subst hq
            exact Did.still hh (v := .bool true) (ptr_nil_run hu ad).2 rfl
          · cases hl
        · cases hl
    · cases hl

def valP (P : Program) (s : Value → Sem Value) (x : PV) : Option PV :=
  match x with
  | .val a => (semPure P (s a)).map .val
  | _ => none

theorem val_did (hh : HRel base S0 ρ H w S) {s : Value → Sem Value} {x q : PV} {v : Value} (hl : valP P s x = some q) (hp : PRel ρ H w S x v) : Did P (s v) base S0 ρ H w S q H := by
  unfold valP at hl
  split at hl
  · rename_i a
    simp only [PRel] at hp
    subst hp
    cases h : semPure P (s v) with
    | none => rw [h] at hl; cases hl
    | some r =>
      rw [h] at hl; cases hl
      exact Did.still hh (semPure_run h w) rfl
  · cases hl

def makeIfaceP (P : Program) (T : TypeId) (x : PV) : Option PV :=
  match P.underlying T with
  | some (.interface _) => none
  | some _ => some (.iface T x)
  | none => none

theorem makeIface_did (hh : HRel base S0 ρ H w S) {T : TypeId} {x q : PV} {v : Value} (hl : makeIfaceP P T x = some q) (hp : PRel ρ H w S x v) :
    Did P (Instr.makeInterface T v) base S0 ρ H w S q H := by
  unfold makeIfaceP at hl
  split at hl
  · cases hl
  · rename_i d hd hu
    cases hl
    refine Did.still hh (v := .iface T v) ?_ ⟨v, rfl, hp⟩
    simp only [Instr.makeInterface, Sem.run_bind, run_underlying hu, Result.andThen_ok]
    cases d <;> first | rfl | exact (hd _ rfl).elim
  · cases hl

def assertP (P : Program) (T : TypeId) (x : PV) (ok : Bool) : Option PV :=
  match P.underlying T with
  | some (.interface _) => none
  | some _ => match x with
    | .iface t y => if t = T then some (if ok then .tuple [y, .val (.bool true)] else y) else (if ok then (zeroOf P T).map fun z => .tuple [.val z, .val (.bool false)] else none)
    | .val (.iface t y) => if t = T then some (if ok then .tuple [.val y, .val (.bool true)] else .val y) else (if ok then (zeroOf P T).map fun z => .tuple [.val z, .val (.bool false)] else none)
    | .val .nilIface => if ok then (zeroOf P T).map fun z => .tuple [.val z, .val (.bool false)] else none
    | _ => none
  | none => none

theorem assert_did (hh : HRel base S0 ρ H w S) {T xT : TypeId} {x q : PV} {v : Value} {ok : Bool} (hl : assertP P T x ok = some q) (hp : PRel ρ H w S x v) :
    Did P (Instr.typeAssert v xT T ok) base S0 ρ H w S q H := by
  unfold assertP at hl
  split at hl
  · cases hl
  · rename_i d hd hu
    have fails : ∀ (q : PV), (ok = true ∧ (zeroOf P T).map (fun z => PV.tuple [.val z, .val (.bool false)]) = some q) → ∃ z, ok = true ∧ zeroOf P T = some z ∧ q = .tuple [.val z, .val (.bool false)] := by
      rintro q ⟨h, hz⟩
      cases hzz : zeroOf P T with
      | none => rw [hzz] at hz; cases hz
      | some z => rw [hzz] at hz; cases hz; exact ⟨z, h, rfl, rfl⟩
    have two : ∀ (p : PV) (u : Value) (b : Bool), PRel ρ H w S p u → PRel ρ H w S (.tuple [p, .val (.bool b)]) (.tuple #[u, .bool b]) :=
      fun p u b h => ⟨_, rfl, ⟨_, _, rfl, h, ⟨_, _, rfl, rfl, rfl⟩⟩⟩
    have holds : ∀ t (y : PV) (u : Value), v = .iface t u → t = T → PRel ρ H w S y u → q = (if ok then .tuple [y, .val (.bool true)] else y) → Did P (Instr.typeAssert v xT T ok) base S0 ρ H w S q H := by
      rintro t y u rfl rfl hy rfl
      cases ok with
      | true =>
        refine Did.still hh (v := .tuple #[u, .bool true]) ?_ (two _ _ _ hy)
        simp only [Instr.typeAssert, Sem.run_bind, run_underlying hu, Result.andThen_ok]
        cases d <;> first | simp | exact (hd _ rfl).elim
      | false =>
        refine Did.still hh (v := u) ?_ hy
        simp only [Instr.typeAssert, Sem.run_bind, run_underlying hu, Result.andThen_ok]
        cases d <;> first | simp | exact (hd _ rfl).elim
    have falls : ∀ t (u : Value), v = .iface t u → t ≠ T → (ok = true ∧ (zeroOf P T).map (fun z => PV.tuple [.val z, .val (.bool false)]) = some q) → Did P (Instr.typeAssert v xT T ok) base S0 ρ H w S q H := by
      rintro t u rfl ht hq
      obtain ⟨z, rfl, hz, rfl⟩ := fails q hq
      refine Did.still hh (v := .tuple #[z, .bool false]) ?_ (two _ _ _ rfl)
      simp only [Instr.typeAssert, Sem.run_bind, run_underlying hu, Result.andThen_ok]
      cases d <;> first | simp [ht, zeroValue_run hz] | exact (hd _ rfl).elim
    split at hl
    · rename_i t y
      simp only [PRel] at hp
      obtain ⟨u, rfl, h1⟩ := hp
      split at hl
      · rename_i ht; cases hl; exact holds t y u rfl ht h1 rfl
      · rename_i ht
        split at hl
        · rename_i hok; exact falls t u rfl ht ⟨hok, hl⟩
        · cases hl
    · rename_i t y
      simp only [PRel] at hp
      subst hp
      split at hl
      · rename_i ht; cases hl; exact holds t (.val y) y rfl ht rfl rfl
      · rename_i ht
        split at hl
        · rename_i hok; exact falls t y rfl ht ⟨hok, hl⟩
        · cases hl
    · simp only [PRel] at hp
      subst hp
      split at hl
      · rename_i hok
        obtain ⟨z, rfl, hz, rfl⟩ := fails q ⟨hok, hl⟩
        refine Did.still hh (v := .tuple #[z, .bool false]) ?_ (two _ _ _ rfl)
        simp only [Instr.typeAssert, Sem.run_bind, run_underlying hu, Result.andThen_ok]
        cases d <;> first | simp [zeroValue_run hz] | exact (hd _ rfl).elim
      · cases hl
    · cases hl
  · cases hl

end
end Go.Proofs.Ytecjkkofoafhaaa.V
