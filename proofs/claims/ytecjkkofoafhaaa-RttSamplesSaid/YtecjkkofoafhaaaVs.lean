/- The pure machine, part s: the run with its state kept in normal form (the same run; quicker to reckon). -/
import Derived.Test.YtecjkkofoafhaaaVr
namespace Go.Proofs.Ytecjkkofoafhaaa.V
open Go.RowKit
universe u

section
variable {α : Type u}

def kInt (i : IntKind) (k : IntKind → α) : α := match i with
  | .i8 => k .i8 | .i16 => k .i16 | .i32 => k .i32 | .i64 => k .i64 | .u8 => k .u8 | .u16 => k .u16 | .u32 => k .u32 | .u64 => k .u64

def kVal (v : Value) (k : Value → α) : α := match v with
  | .int i n => kInt i fun i => k (.int i n)
  | .bool b => k (.bool b)
  | .string s => k (.string s)
  | .tuple us => k (.tuple us)
  | v => k v

def kBool (b : Bool) (k : Bool → α) : α := match b with
  | true => k true
  | false => k false

theorem kInt_eq (i : IntKind) (k : IntKind → α) : kInt i k = k i := by cases i <;> rfl
theorem kVal_eq (v : Value) (k : Value → α) : kVal v k = k v := by cases v <;> simp only [kVal, kInt_eq]
theorem kBool_eq (b : Bool) (k : Bool → α) : kBool b k = k b := by cases b <;> rfl

/-- A number as it stands in a list of numbers. -/
def kNat (tbl : List Nat) (n : Nat) (k : Nat → α) : α := match tbl with
  | [] => k n
  | t :: tbl => bif Nat.beq n t then k t else kNat tbl n k
termination_by structural tbl

theorem kNat_eq : ∀ (tbl : List Nat) (n : Nat) (k : Nat → α), kNat tbl n k = k n
  | [], _, _ => rfl
  | t :: tbl, n, k => by
    rw [kNat]
    cases h : Nat.beq n t with
    | true => simp [Nat.eq_of_beq_eq_true h]
    | false => exact kNat_eq tbl n k

def small : List Nat := [0, 1, 2, 3, 4, 5, 6, 7, 8, 9, 10, 11, 12, 13, 14, 15, 16, 17, 18, 19, 20, 21, 22, 23, 24, 25, 26, 27, 28, 29, 30, 31, 32, 33, 34, 35, 36, 37, 38, 39, 40]

mutual
def kPV (p : PV) (k : PV → α) : α := match p with
  | .val v => kVal v fun v => k (.val v)
  | .rows t l c => kBool c fun c => k (.rows t l c)
  | .sl b off len => kNat small b fun b => k (.sl b off len)
  | .all b => kNat small b fun b => k (.all b)
  | .cs b off len sz => kNat small b fun b => k (.cs b off len sz)
  | .ptr b off => kNat small b fun b => kNat small off fun off => k (.ptr b off)
  | .rptr b i j => kNat small b fun b => kNat small j fun j => k (.rptr b i j)
  | .pin t x j => k (.pin t x j)
  | .func fn f c => kPVs f fun f => kPVs c fun c => k (.func fn f c)
  | .iface t x => kPV x fun x => k (.iface t x)
  | .agg cs => kPVs cs fun cs => k (.agg cs)
  | .tuple vs => kPVs vs fun vs => k (.tuple vs)
  | .emp => k .emp
  | .junk => k .junk
termination_by structural p
def kPVs (ps : List PV) (k : List PV → α) : α := match ps with
  | [] => k []
  | p :: ps => kPV p fun p => kPVs ps fun ps => k (p :: ps)
termination_by structural ps
end

mutual
theorem kPV_eq : ∀ (p : PV) (k : PV → α), kPV p k = k p
  | .val v, k => kVal_eq v _
  | .rows t l c, k => kBool_eq c _
  | .sl b off len, k => kNat_eq _ _ _
  | .all b, k => kNat_eq _ _ _
  | .cs b off len sz, k => kNat_eq _ _ _
  | .ptr b off, k => by rw [kPV, kNat_eq, kNat_eq]
  | .rptr b i j, k => by rw [kPV, kNat_eq, kNat_eq]
  | .pin t x j, k => rfl
  | .func fn f c, k => by rw [kPV, kPVs_eq f, kPVs_eq c]
  | .iface t x, k => by rw [kPV, kPV_eq x]
  | .agg cs, k => by rw [kPV, kPVs_eq cs]
  | .tuple vs, k => by rw [kPV, kPVs_eq vs]
  | .emp, k => rfl
  | .junk, k => rfl
theorem kPVs_eq : ∀ (ps : List PV) (k : List PV → α), kPVs ps k = k ps
  | [], k => rfl
  | p :: ps, k => by rw [kPVs, kPV_eq p, kPVs_eq ps]
end

def kAO (o : Option AO) (k : Option AO → α) : α := match o with
  | none => k none
  | some (.cells cs) => kPVs cs fun cs => k (some (.cells cs))
  | some (.row t l) => k (some (.row t l))
  | some (.fro t l) => k (some (.fro t l))

theorem kAO_eq (o : Option AO) (k : Option AO → α) : kAO o k = k o := by
  cases o with
  | none => rfl
  | some o => cases o <;> first | rfl | exact kPVs_eq _ _

def kHeap (H : Heap) (k : Heap → α) : α := match H with
  | [] => k []
  | o :: H => kAO o fun o => kHeap H fun H => k (o :: H)
termination_by structural H

theorem kHeap_eq : ∀ (H : Heap) (k : Heap → α), kHeap H k = k H
  | [], _ => rfl
  | o :: H, k => by rw [kHeap, kAO_eq, kHeap_eq H]

def kList {β : Type} (l : List β) (k : List β → α) : α := match l with
  | [] => k []
  | x :: l => kList l fun l => k (x :: l)
termination_by structural l

theorem kList_eq {β : Type} : ∀ (l : List β) (k : List β → α), kList l k = k l
  | [], _ => rfl
  | x :: l, k => by rw [kList, kList_eq l]

def kFt (x : Nat × Ft) (k : Nat × Ft → α) : α := match x with
  | (i, ⟨r, w, n⟩) => kList r fun r => kList w fun w => match n with
    | none => k (i, ⟨r, w, none⟩)
    | some n => k (i, ⟨r, w, some n⟩)

theorem kFt_eq (x : Nat × Ft) (k : Nat × Ft → α) : kFt x k = k x := by
  obtain ⟨i, r, w, n⟩ := x
  simp only [kFt, kList_eq]
  cases n <;> rfl

def kFts (l : List (Nat × Ft)) (k : List (Nat × Ft) → α) : α := match l with
  | [] => k []
  | x :: l => kFt x fun x => kFts l fun l => k (x :: l)
termination_by structural l

theorem kFts_eq : ∀ (l : List (Nat × Ft)) (k : List (Nat × Ft) → α), kFts l k = k l
  | [], _ => rfl
  | x :: l, k => by rw [kFts, kFt_eq, kFts_eq l]

def kFr (Ks : List Nat) (f : Fr) (k : Fr → α) : α := match f with
  | ⟨K, path, ix, env, start, feet⟩ => kNat Ks K fun K => kList path fun path => kPVs env fun env => kFts feet fun feet => match ix with
    | none => match start with
      | none => k ⟨K, path, none, env, none, feet⟩
      | some (e, h) => k ⟨K, path, none, env, some (e, h), feet⟩
    | some i => kNat small i fun i => match start with
      | none => k ⟨K, path, some i, env, none, feet⟩
      | some (e, h) => k ⟨K, path, some i, env, some (e, h), feet⟩

theorem kFr_eq (Ks : List Nat) (f : Fr) (k : Fr → α) : kFr Ks f k = k f := by
  obtain ⟨K, path, ix, env, start, feet⟩ := f
  simp only [kFr, kNat_eq, kList_eq, kPVs_eq, kFts_eq]
  cases ix <;> cases start <;> rfl

def kFrs (Ks : List Nat) (l : List Fr) (k : List Fr → α) : α := match l with
  | [] => k []
  | x :: l => kFr Ks x fun x => kFrs Ks l fun l => k (x :: l)
termination_by structural l

theorem kFrs_eq (Ks : List Nat) : ∀ (l : List Fr) (k : List Fr → α), kFrs Ks l k = k l
  | [], _ => rfl
  | x :: l, k => by rw [kFrs, kFr_eq, kFrs_eq Ks l]

/-- The state in normal form. -/
def kCfg (Ks : List Nat) (c : Cfg) (k : Cfg → α) : α := match c with
  | ⟨top, rest, H⟩ => kFr Ks top fun top => kFrs Ks rest fun rest => kHeap H fun H => k ⟨top, rest, H⟩

theorem kCfg_eq (Ks : List Nat) (c : Cfg) (k : Cfg → α) : kCfg Ks c k = k c := by
  obtain ⟨top, rest, H⟩ := c
  simp only [kCfg, kFr_eq, kFrs_eq, kHeap_eq]
end

section
variable {P : Program} {I : World → Prop} {g : Nat} (M : Mach P I g) {R : Type} (fin : List PV → Heap → Option R)

/-- runA, its state in normal form at each step. -/
def runB (Ks : List Nat) (X : Cfg → Option (Option R)) : Nat → Cfg → Option R
  | 0, _ => none
  | n + 1, c => (stepA M fin c).run fun c' => kCfg Ks c' fun c' => match X c' with
    | some o => o
    | none => runB Ks X n c'

theorem runB_eq (Ks : List Nat) (X : Cfg → Option (Option R)) : ∀ (n : Nat) (c : Cfg), runB M fin Ks X n c = runA M fin X n c
  | 0, _ => rfl
  | n + 1, c => by
    simp only [runB, runA, kCfg_eq]
    congr 1
    funext c'
    rw [runB_eq Ks X n]
    cases X c' <;> rfl
end
end Go.Proofs.Ytecjkkofoafhaaa.V
