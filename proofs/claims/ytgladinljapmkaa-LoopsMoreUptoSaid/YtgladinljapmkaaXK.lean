/- What is said of graphs in this seat. -/
import Derived.Test.YtgladinljapmkaaXI
import Derived.Test.YtgladinljapmkaaProg
/- The types of this translation. -/
namespace Go.Proofs.Ytgladinljapmkaa.Am
open Go Go.Proofs
set_option maxRecDepth 10000
set_option maxHeartbeats 2000000
def tt : Tab := [
  ⟨.other, 1, 0, [], false⟩,
  ⟨.fn, 1, 8, [.nfn], false⟩,
  ⟨.int .i64, 1, 8, [(.int .i64 0)], false⟩,
  ⟨.int .i64, 1, 8, [(.int .i64 0)], false⟩,
  ⟨.bool, 1, 1, [(.bool false)], false⟩,
  ⟨.int .u8, 1, 1, [(.int .u8 0)], false⟩,
  ⟨.int .u8, 1, 1, [(.int .u8 0)], false⟩,
  ⟨.struct [(2, 0), (3, 1), (4, 2), (6, 3)], 4, 24, [(.int .i64 0), (.int .i64 0), (.bool false), (.int .u8 0)], true⟩,
  ⟨.struct [(2, 0), (3, 1), (4, 2), (6, 3)], 4, 24, [(.int .i64 0), (.int .i64 0), (.bool false), (.int .u8 0)], true⟩,
  ⟨.str, 1, 16, [(.str ByteArray.empty)], false⟩,
  ⟨.str, 1, 16, [(.str ByteArray.empty)], false⟩,
  ⟨.str, 1, 16, [(.str ByteArray.empty)], false⟩,
  ⟨.int .u64, 1, 8, [(.int .u64 0)], false⟩,
  ⟨.struct [(9, 0), (12, 1)], 2, 24, [(.str ByteArray.empty), (.int .u64 0)], false⟩,
  ⟨.struct [(9, 0), (12, 1)], 2, 24, [(.str ByteArray.empty), (.int .u64 0)], false⟩,
  ⟨.ptr 116, 1, 8, [.nptr], false⟩,
  ⟨.ptr 119, 1, 8, [.nptr], false⟩,
  ⟨.ptr 128, 1, 8, [.nptr], false⟩,
  ⟨.struct [(17, 0)], 1, 8, [.nptr], false⟩,
  ⟨.struct [(17, 0)], 1, 8, [.nptr], false⟩,
  ⟨.iface, 1, 16, [.nif], false⟩,
  ⟨.int .i32, 1, 4, [(.int .i32 0)], false⟩,
  ⟨.slice 3, 1, 24, [.nsl], false⟩,
  ⟨.slice 130, 1, 24, [.nsl], false⟩,
  ⟨.slice 51, 1, 24, [.nsl], false⟩,
  ⟨.struct [(22, 0), (3, 1), (23, 2), (24, 3)], 4, 80, [.nsl, (.int .i64 0), .nsl, .nsl], false⟩,
  ⟨.struct [(22, 0), (3, 1), (23, 2), (24, 3)], 4, 80, [.nsl, (.int .i64 0), .nsl, .nsl], false⟩,
  ⟨.fn, 1, 8, [.nfn], false⟩,
  ⟨.fn, 1, 8, [.nfn], false⟩,
  ⟨.slice 35, 1, 24, [.nsl], false⟩,
  ⟨.fn, 1, 8, [.nfn], false⟩,
  ⟨.fn, 1, 8, [.nfn], false⟩,
  ⟨.fn, 1, 8, [.nfn], false⟩,
  ⟨.fn, 1, 8, [.nfn], false⟩,
  ⟨.fn, 1, 8, [.nfn], false⟩,
  ⟨.arr 2 3, 2, 16, [(.int .i64 0), (.int .i64 0)], true⟩,
  ⟨.slice 22, 1, 24, [.nsl], false⟩,
  ⟨.fn, 1, 8, [.nfn], false⟩,
  ⟨.other, 1, 0, [.nsl, (.bool false)], false⟩,
  ⟨.fn, 1, 8, [.nfn], false⟩,
  ⟨.slice 4, 1, 24, [.nsl], false⟩,
  ⟨.fn, 1, 8, [.nfn], false⟩,
  ⟨.slice 40, 1, 24, [.nsl], false⟩,
  ⟨.fn, 1, 8, [.nfn], false⟩,
  ⟨.int .u32, 1, 4, [(.int .u32 0)], false⟩,
  ⟨.slice 80, 1, 24, [.nsl], false⟩,
  ⟨.struct [(3, 0), (3, 1), (3, 2), (3, 3), (44, 4), (3, 5), (3, 6), (45, 7), (22, 8)], 9, 104, [(.int .i64 0), (.int .i64 0), (.int .i64 0), (.int .i64 0), (.int .u32 0), (.int .i64 0), (.int .i64 0), .nsl, .nsl], false⟩,
  ⟨.struct [(3, 0), (3, 1), (3, 2), (3, 3), (44, 4), (3, 5), (3, 6), (45, 7), (22, 8)], 9, 104, [(.int .i64 0), (.int .i64 0), (.int .i64 0), (.int .i64 0), (.int .u32 0), (.int .i64 0), (.int .i64 0), .nsl, .nsl], false⟩,
  ⟨.fn, 1, 8, [.nfn], false⟩,
  ⟨.slice 87, 1, 24, [.nsl], false⟩,
  ⟨.struct [(49, 0), (47, 1)], 10, 128, [.nsl, (.int .i64 0), (.int .i64 0), (.int .i64 0), (.int .i64 0), (.int .u32 0), (.int .i64 0), (.int .i64 0), .nsl, .nsl], false⟩,
  ⟨.struct [(49, 0), (47, 1)], 10, 128, [.nsl, (.int .i64 0), (.int .i64 0), (.int .i64 0), (.int .i64 0), (.int .u32 0), (.int .i64 0), (.int .i64 0), .nsl, .nsl], false⟩,
  ⟨.fn, 1, 8, [.nfn], false⟩,
  ⟨.fn, 1, 8, [.nfn], false⟩,
  ⟨.fn, 1, 8, [.nfn], false⟩,
  ⟨.fn, 1, 8, [.nfn], false⟩,
  ⟨.fn, 1, 8, [.nfn], false⟩,
  ⟨.slice 44, 1, 24, [.nsl], false⟩,
  ⟨.slice 26, 1, 24, [.nsl], false⟩,
  ⟨.struct [(57, 0), (22, 1), (58, 2), (3, 3)], 4, 80, [.nsl, .nsl, .nsl, (.int .i64 0)], false⟩,
  ⟨.struct [(57, 0), (22, 1), (58, 2), (3, 3)], 4, 80, [.nsl, .nsl, .nsl, (.int .i64 0)], false⟩,
  ⟨.fn, 1, 8, [.nfn], false⟩,
  ⟨.fn, 1, 8, [.nfn], false⟩,
  ⟨.fn, 1, 8, [.nfn], false⟩,
  ⟨.fn, 1, 8, [.nfn], false⟩,
  ⟨.fn, 1, 8, [.nfn], false⟩,
  ⟨.map 35 3, 1, 8, [.any], false⟩,
  ⟨.fn, 1, 8, [.nfn], false⟩,
  ⟨.fn, 1, 8, [.nfn], false⟩,
  ⟨.fn, 1, 8, [.nfn], false⟩,
  ⟨.fn, 1, 8, [.nfn], false⟩,
  ⟨.fn, 1, 8, [.nfn], false⟩,
  ⟨.fn, 1, 8, [.nfn], false⟩,
  ⟨.fn, 1, 8, [.nfn], false⟩,
  ⟨.fn, 1, 8, [.nfn], false⟩,
  ⟨.struct [(3, 0), (3, 1)], 2, 16, [(.int .i64 0), (.int .i64 0)], true⟩,
  ⟨.struct [(3, 0), (3, 1)], 2, 16, [(.int .i64 0), (.int .i64 0)], true⟩,
  ⟨.slice 76, 1, 24, [.nsl], false⟩,
  ⟨.ptr 76, 1, 8, [.nptr], false⟩,
  ⟨.struct [(44, 0), (3, 1)], 2, 16, [(.int .u32 0), (.int .i64 0)], true⟩,
  ⟨.struct [(44, 0), (3, 1)], 2, 16, [(.int .u32 0), (.int .i64 0)], true⟩,
  ⟨.map 3 3, 1, 8, [.any], false⟩,
  ⟨.fn, 1, 8, [.nfn], false⟩,
  ⟨.fn, 1, 8, [.nfn], false⟩,
  ⟨.fn, 1, 8, [.nfn], false⟩,
  ⟨.fn, 1, 8, [.nfn], false⟩,
  ⟨.struct [(3, 0), (3, 1), (3, 2), (3, 3), (3, 4), (44, 5), (22, 6), (22, 7)], 8, 96, [(.int .i64 0), (.int .i64 0), (.int .i64 0), (.int .i64 0), (.int .i64 0), (.int .u32 0), .nsl, .nsl], false⟩,
  ⟨.struct [(3, 0), (3, 1), (3, 2), (3, 3), (3, 4), (44, 5), (22, 6), (22, 7)], 8, 96, [(.int .i64 0), (.int .i64 0), (.int .i64 0), (.int .i64 0), (.int .i64 0), (.int .u32 0), .nsl, .nsl], false⟩,
  ⟨.fn, 1, 8, [.nfn], false⟩,
  ⟨.fn, 1, 8, [.nfn], false⟩,
  ⟨.fn, 1, 8, [.nfn], false⟩,
  ⟨.fn, 1, 8, [.nfn], false⟩,
  ⟨.fn, 1, 8, [.nfn], false⟩,
  ⟨.int .u64, 1, 8, [(.int .u64 0)], false⟩,
  ⟨.fn, 1, 8, [.nfn], false⟩,
  ⟨.int .i64, 1, 8, [(.int .i64 0)], false⟩,
  ⟨.other, 1, 0, [(.int .i64 0), (.int .i64 0)], false⟩,
  ⟨.fn, 1, 8, [.nfn], false⟩,
  ⟨.fn, 1, 8, [.nfn], false⟩,
  ⟨.fn, 1, 8, [.nfn], false⟩,
  ⟨.other, 1, 0, [(.int .i64 0), (.bool false)], false⟩,
  ⟨.fn, 1, 8, [.nfn], false⟩,
  ⟨.fn, 1, 8, [.nfn], false⟩,
  ⟨.fn, 1, 8, [.nfn], false⟩,
  ⟨.int .u64, 1, 8, [(.int .u64 0)], false⟩,
  ⟨.int .u64, 1, 8, [(.int .u64 0)], false⟩,
  ⟨.fn, 1, 8, [.nfn], false⟩,
  ⟨.fn, 1, 8, [.nfn], false⟩,
  ⟨.fn, 1, 8, [.nfn], false⟩,
  ⟨.ptr 3, 1, 8, [.nptr], false⟩,
  ⟨.fn, 1, 8, [.nfn], false⟩,
  ⟨.ptr 105, 1, 8, [.nptr], false⟩,
  ⟨.other, 1, 0, [(.int .i64 0), (.int .i64 0)], false⟩,
  ⟨.fn, 1, 8, [.nfn], false⟩,
  ⟨.fn, 1, 8, [.nfn], false⟩,
  ⟨.struct [(17, 0), (17, 1), (17, 2), (9, 3)], 4, 40, [.nptr, .nptr, .nptr, (.str ByteArray.empty)], false⟩,
  ⟨.struct [(17, 0), (17, 1), (17, 2), (9, 3)], 4, 40, [.nptr, .nptr, .nptr, (.str ByteArray.empty)], false⟩,
  ⟨.arr 0 16, 0, 0, [], false⟩,
  ⟨.struct [(117, 0)], 0, 0, [], false⟩,
  ⟨.struct [(117, 0)], 0, 0, [], false⟩,
  ⟨.fn, 1, 8, [.nfn], false⟩,
  ⟨.int .u8, 1, 1, [(.int .u8 0)], false⟩,
  ⟨.int .u8, 1, 1, [(.int .u8 0)], false⟩,
  ⟨.fn, 1, 8, [.nfn], false⟩,
  ⟨.ptr 5, 1, 8, [.nptr], false⟩,
  ⟨.int .i32, 1, 4, [(.int .i32 0)], false⟩,
  ⟨.int .i32, 1, 4, [(.int .i32 0)], false⟩,
  ⟨.struct [(12, 0), (12, 1), (44, 2), (121, 3), (5, 4), (5, 5), (122, 6), (123, 7), (124, 8), (125, 9), (126, 10)], 11, 48, [(.int .u64 0), (.int .u64 0), (.int .u32 0), (.int .u8 0), (.int .u8 0), (.int .u8 0), (.int .u8 0), .nfn, .nptr, (.int .i32 0), (.int .i32 0)], false⟩,
  ⟨.struct [(12, 0), (12, 1), (44, 2), (121, 3), (5, 4), (5, 5), (122, 6), (123, 7), (124, 8), (125, 9), (126, 10)], 11, 48, [(.int .u64 0), (.int .u64 0), (.int .u32 0), (.int .u8 0), (.int .u8 0), (.int .u8 0), (.int .u8 0), .nfn, .nptr, (.int .i32 0), (.int .i32 0)], false⟩,
  ⟨.struct [(3, 0), (3, 1)], 2, 16, [(.int .i64 0), (.int .i64 0)], true⟩,
  ⟨.struct [(3, 0), (3, 1)], 2, 16, [(.int .i64 0), (.int .i64 0)], true⟩,
  ⟨.other, 0, 0, [], false⟩]
theorem tt_check : tabCheck Try.prog tt = true := by kernel_rfl
theorem ttOk : TabOk Try.prog tt := tabOk_of_check tt_check
end Go.Proofs.Ytgladinljapmkaa.Am

/- A callee's contract over the objects that it is handed, used where there are more. -/
namespace Go.Proofs.Ytgladinljapmkaa.Am
open Go.RowKit
set_option linter.unusedVariables false
set_option linter.unusedSimpArgs false
def mvS (g : Nat → Option Nat) : Nat → SV → SV
  | _, .t x => .t x
  | _, .ref k e p off len => match g k with | some j => .ref j e p off len | none => .any
  | _, .pl k e p i off => match g k with | some j => .pl j e p i off | none => .any
  | _, .mp k e p => match g k with | some j => .mp j e p | none => .any
  | n + 1, .agg xs => .agg (xs.map (mvS g n))
  | n + 1, .tup xs => .tup (xs.map (mvS g n))
  | n + 1, .fn f xs => .fn f (xs.map (mvS g n))
  | _, _ => .any
def mvO (g : Nat → Option Nat) : SObj → SObj
  | .var E cs => .var E (cs.map (mvS g 4))
  | o => o
def bkI (n : Nat) (L : List Nat) (i : Nat) : Option Nat := match nth L i with
  | some k => some k
  | none => some (n + (i - L.length))
def putAll (g : Nat → Option Nat) : List Nat → Sto → Sto → Sto
  | k :: L, o :: σ2, σ => putAll g L σ2 (σ.set k (mvO g o))
  | [], σ2, σ => σ ++ σ2.map (mvO g)
  | _ :: _, [], σ => σ
section
variable {P : Program} {own own' : Nat → Own} {F F' : Nat → Prop} {w w' : World} {σ : Sto}
theorem mvS_VS {g : Nat → Option Nat} (hv : ∀ x v, VT F w x v → VT F' w' x v) (ha : ∀ k j, g k = some j → ∀ e p L, (own k).am e p = some L → (own' j).am e p = some L) : ∀ (n : Nat) (x : SV) (v : Value), VS own F w x v → VS own' F' w' (mvS g n x) v := by
  have leafs : ∀ (n : Nat) (x : SV) (v : Value), VS own F w x v → (∀ xs, x ≠ .agg xs) → (∀ xs, x ≠ .tup xs) → (∀ f xs, x ≠ .fn f xs) → VS own' F' w' (mvS g n x) v := by
    intro n x v h n1 n2 n3
    cases x with
    | t x => cases h with | t _ _ h => cases n <;> exact .t _ _ (hv _ _ h)
    | agg xs => exact absurd rfl (n1 _)
    | tup xs => exact absurd rfl (n2 _)
    | fn f xs => exact absurd rfl (n3 _ _)
    | g c x => cases n <;> exact .t _ _ (.any _)
    | ref k e p off len =>
      have e1 : mvS g n (.ref k e p off len) = (match g k with | some j => .ref j e p off len | none => .any) := by cases n <;> rfl
      rw [e1]
      cases hg : g k with
      | none => exact .t _ _ (.any _)
      | some j =>
        cases h with
        | ref _ _ _ _ _ b o sz cap m h hl hm hn => exact .ref _ _ _ _ _ b o sz cap m (ha _ _ hg _ _ _ h) hl hm hn
        | refE _ _ _ ad h => exact .refE _ _ _ ad (ha _ _ hg _ _ _ h)
        | refZ _ _ _ _ ad h => exact .refZ _ _ _ _ ad h
    | pl k e p i off =>
      have e1 : mvS g n (.pl k e p i off) = (match g k with | some j => .pl j e p i off | none => .any) := by cases n <;> rfl
      rw [e1]
      cases hg : g k with
      | none => exact .t _ _ (.any _)
      | some j => cases h with | pl _ _ _ _ _ b o sz cap m h => exact .pl _ _ _ _ _ b o sz cap m (ha _ _ hg _ _ _ h)
    | mp k e p =>
      have e1 : mvS g n (.mp k e p) = (match g k with | some j => .mp j e p | none => .any) := by cases n <;> rfl
      rw [e1]
      cases hg : g k with
      | none => exact .t _ _ (.any _)
      | some j => cases h with | mp _ _ _ b o sz cap m h => exact .mp _ _ _ b o sz cap m (ha _ _ hg _ _ _ h)
  have many : ∀ (n : Nat), (∀ (x : SV) (v : Value), VS own F w x v → VS own' F' w' (mvS g n x) v) → ∀ (xs : List SV) (vs : Array Value), (∀ (i : Nat) (x : SV) (v : Value), xs[i]? = some x → vs[i]? = some v → VS own F w x v) →
      ∀ (i : Nat) (x : SV) (v : Value), (xs.map (mvS g n))[i]? = some x → vs[i]? = some v → VS own' F' w' x v := by
    intro n ih xs vs h i x v hx hv'
    rw [List.getElem?_map, Option.map_eq_some_iff] at hx
    obtain ⟨y, hy, rfl⟩ := hx
    exact ih y v (h i y v hy hv')
  intro n
  induction n with
  | zero =>
    intro x v h
    cases x with
    | agg xs => exact .t _ _ (.any _)
    | tup xs => exact .t _ _ (.any _)
    | fn f xs => exact .t _ _ (.any _)
    | _ => exact leafs 0 _ v h (fun _ h => nomatch h) (fun _ h => nomatch h) (fun _ _ h => nomatch h)
  | succ n ih =>
    intro x v h
    cases x with
    | agg xs => cases h with | agg _ vs hs hh => exact .agg _ _ (by simpa using hs) (many n ih xs vs hh)
    | tup xs => cases h with | tup _ vs hs hh => exact .tup _ _ (by simpa using hs) (many n ih xs vs hh)
    | fn f xs => cases h with | fn _ _ vs hs hh => exact .fn _ _ _ (by simpa using hs) (many n ih xs vs hh)
    | _ => exact leafs _ _ v h (fun _ h => nomatch h) (fun _ h => nomatch h) (fun _ _ h => nomatch h)
theorem OR.mv {g : Nat → Option Nat} {ow : Own} {o : SObj} (h : OR own F w ow o) (ha : ∀ k j, g k = some j → ∀ e p L, (own k).am e p = some L → (own' j).am e p = some L) : OR own' F w ow (mvO g o) := by
  cases o with
  | dead => trivial
  | nd ep nd => exact h
  | var E cs =>
    obtain ⟨b, vals, h1, h2, h3, h4, h5, h6, h7⟩ := h
    refine ⟨b, vals, by simpa using h1, h2, h3, by simpa using h4, fun j x v hx hv => ?_, h6, h7⟩
    rw [List.getElem?_map, Option.map_eq_some_iff] at hx
    obtain ⟨y, hy, rfl⟩ := hx
    exact mvS_VS (fun _ _ h => h) ha 4 y v (h5 j y v hy hv)
theorem putAll_len {g : Nat → Option Nat} : ∀ (L : List Nat) (σ2 σ : Sto), L.length ≤ σ2.length → (putAll g L σ2 σ).length = σ.length + (σ2.length - L.length)
  | [], σ2, σ, _ => by simp [putAll]
  | k :: L, [], σ, h => by simp at h
  | k :: L, o :: σ2, σ, h => by
    rw [putAll, putAll_len L σ2 _ (by simpa using h)]
    simp
theorem putAll_get {g : Nat → Option Nat} : ∀ (L : List Nat) (σ2 σ : Sto), L.Nodup → (∀ k ∈ L, k < σ.length) → L.length ≤ σ2.length → ∀ (k : Nat), (putAll g L σ2 σ)[k]? =
    (match idx 0 k L with | some i => (σ2[i]?).map (mvO g) | none => if k < σ.length then σ[k]? else (σ2[k - σ.length + L.length]?).map (mvO g))
  | [], σ2, σ, _, _, _, k => by
    simp only [putAll, idx, List.length_nil, Nat.add_zero]
    split
    · rename_i h; rw [List.getElem?_append_left h]
    · rename_i h; rw [List.getElem?_append_right (by omega), List.getElem?_map]
  | j :: L, [], σ, _, _, h, k => by simp at h
  | j :: L, o :: σ2, σ, hn, hl, h, k => by
    rw [List.nodup_cons] at hn
    rw [putAll, putAll_get L σ2 _ hn.2 (by intro i hi; simpa using hl i (List.mem_cons_of_mem _ hi)) (by simpa using h) k]
    have hj : j < σ.length := hl j (by simp)
    by_cases hkj : k = j
    · subst hkj
      have hno : idx 0 k L = none := by
        cases hi : idx 0 k L with
        | none => rfl
        | some i => have := idx_some hi; exact absurd (List.mem_of_getElem? this.2) hn.1
      have h1 : idx 0 k (k :: L) = some 0 := by simp [idx]
      rw [hno, h1]
      simp [hj]
    · have hb : Nat.beq k j = false := by
        cases hq : Nat.beq k j with
        | false => rfl
        | true => exact absurd (Nat.eq_of_beq_eq_true hq) hkj
      have sh : ∀ (L : List Nat) (n : Nat), idx (n + 1) k L = (idx n k L).map (· + 1) := by
        intro L
        induction L with
        | nil => intro n; rfl
        | cons i L ih => intro n; simp only [idx]; cases Nat.beq k i <;> simp [ih]
      have h1 : idx 0 k (j :: L) = (idx 0 k L).map (· + 1) := by
        simp only [idx, hb, cond_false]
        exact sh L 0
      rw [h1]
      cases hi : idx 0 k L with
      | some i => simp
      | none =>
        simp only [Option.map_none, List.length_set, List.length_cons]
        split
        · rw [List.getElem?_set_ne (fun e => hkj e.symm)]
        · rw [show k - σ.length + (L.length + 1) = (k - σ.length + L.length) + 1 by omega, List.getElem?_cons_succ]
theorem idx_of {L : List Nat} (hn : L.Nodup) {i k : Nat} (h : L[i]? = some k) : idx 0 k L = some i := by
  cases hi : idx 0 k L with
  | none => exact absurd (List.mem_of_getElem? h) (idx_none hi)
  | some j =>
    have h2 := (idx_some hi).2
    rw [Nat.sub_zero] at h2
    exact congrArg some ((List.getElem?_inj (List.getElem?_eq_some_iff.1 h2).1 hn).1 (h2.trans h.symm))
theorem ICalls.frame (L : List Nat) {f : FuncId} {vs : List SV} {K : SV → Sto → Prop} (hL : (unlikeIds L && L.all fun k => Nat.blt k σ.length) = true)
    (h : ICalls P f (vs.map (mvS (fun k => idx 0 k L) 4)) (L.map fun k => mvO (fun k => idx 0 k L) ((nth σ k).getD .dead)) fun v σ2 => L.length ≤ σ2.length → K (mvS (bkI σ.length L) 4 v) (putAll (bkI σ.length L) L σ2 σ)) : ICalls P f vs σ K := by
  simp only [Bool.and_eq_true] at hL
  have hnd := unlikeIds_nodup hL.1
  have hlt : ∀ k ∈ L, k < σ.length := fun k hk => by have := List.all_eq_true.1 hL.2 k hk; simpa [Nat.blt_eq] using this
  unfold ICalls at h ⊢
  refine ⟨h.1, ?_⟩
  intro own F w mvs hl hv r
  let own0 : Nat → Own := fun i => match L[i]? with | some k => own k | none => .no
  have o0 : ∀ i k, L[i]? = some k → own0 i = own k := by
    intro i k hi
    show (match L[i]? with | some k => own k | none => .no) = own k
    rw [hi]
  have o0n : ∀ i, L[i]? = none → own0 i = .no := by
    intro i hi
    show (match L[i]? with | some k => own k | none => .no) = .no
    rw [hi]
  have b0 : ∀ i b, (own0 i).bl b → ∃ k, L[i]? = some k ∧ (own k).bl b := by
    intro i b hb
    cases hi : L[i]? with
    | none => rw [o0n i hi] at hb; exact hb.elim
    | some k => rw [o0 i k hi] at hb; exact ⟨k, rfl, hb⟩
  have lv0 : ∀ b, Lv own0 b → ∃ k, k ∈ L ∧ (own k).bl b := by
    rintro b ⟨i, hb⟩
    obtain ⟨k, h1, h2⟩ := b0 i b hb
    exact ⟨k, List.mem_of_getElem? h1, h2⟩
  have am0 : ∀ k j, idx 0 k L = some j → ∀ e p A, (own k).am e p = some A → (own0 j).am e p = some A := by
    intro k j hj e p A hA
    have := (idx_some hj).2
    rw [Nat.sub_zero] at this
    rw [o0 j k this]
    exact hA
  have r0 : Rel own0 F w (L.map fun k => mvO (fun k => idx 0 k L) ((nth σ k).getD .dead)) := by
    refine ⟨fun i hi => o0n i (by rw [List.getElem?_eq_none]; simpa using hi), fun i j b h1 h2 => ?_, fun i b hb => ?_, r.fb, fun i b hb => ?_, fun i o ho => ?_⟩
    · obtain ⟨k, g1, g2⟩ := b0 i b h1
      obtain ⟨k', g3, g4⟩ := b0 j b h2
      have := r.inj k k' b g2 g4
      subst this
      exact (List.getElem?_inj (List.getElem?_eq_some_iff.1 g1).1 hnd).1 (g1.trans g3.symm)
    · obtain ⟨k, _, g2⟩ := b0 i b hb
      exact r.sep k b g2
    · obtain ⟨k, _, g2⟩ := b0 i b hb
      exact r.lb k b g2
    · rw [List.getElem?_map, Option.map_eq_some_iff] at ho
      obtain ⟨k, hk, rfl⟩ := ho
      rw [o0 i k hk, nth_eq]
      have hkl := hlt k (List.mem_of_getElem? hk)
      rw [List.getElem?_eq_getElem hkl]
      exact (r.obj k _ (List.getElem?_eq_getElem hkl)).mv am0
  refine (h.2 own0 F w mvs (by simpa using hl) (fun i x v hx hv' => ?_) r0).mono ?_
  · rw [List.getElem?_map, Option.map_eq_some_iff] at hx
    obtain ⟨y, hy, rfl⟩ := hx
    exact mvS_VS (fun _ _ h => h) am0 4 y v (hv i y v hy hv')
  · rintro e w' ⟨v2, σ2, own2, F2, mv, rfl, hK, ex, r2, hle, hv2⟩
    rw [List.length_map] at hle ex
    have hK := hK hle
    let own3 : Nat → Own := fun k => match idx 0 k L with
      | some i => own2 i
      | none => if k < σ.length then own k else own2 (k - σ.length + L.length)
    have w1 : ∀ k i, idx 0 k L = some i → own3 k = own2 i := by
      intro k i hi
      show (match idx 0 k L with | some i => own2 i | none => if k < σ.length then own k else own2 (k - σ.length + L.length)) = own2 i
      rw [hi]
    have w2 : ∀ k, idx 0 k L = none → k < σ.length → own3 k = own k := by
      intro k hi hk
      show (match idx 0 k L with | some i => own2 i | none => if k < σ.length then own k else own2 (k - σ.length + L.length)) = own k
      rw [hi]
      exact if_pos hk
    have w3 : ∀ k, σ.length ≤ k → own3 k = own2 (k - σ.length + L.length) := by
      intro k hk
      have hi : idx 0 k L = none := by
        cases hi : idx 0 k L with
        | none => rfl
        | some i => have := hlt k (List.mem_of_getElem? (idx_some hi).2); omega
      show (match idx 0 k L with | some i => own2 i | none => if k < σ.length then own k else own2 (k - σ.length + L.length)) = _
      rw [hi]
      exact if_neg (by omega)
    -- where an object's blocks come from
    have org : ∀ k b, (own3 k).bl b → (∃ j, own3 k = own2 j ∧ (own2 j).bl b ∧ (idx 0 k L = some j ∧ j < L.length ∨ σ.length ≤ k ∧ j = k - σ.length + L.length)) ∨ (idx 0 k L = none ∧ k < σ.length ∧ (own k).bl b) := by
      intro k b hb
      cases hi : idx 0 k L with
      | some i =>
        have h1 := w1 k i hi
        rw [h1] at hb
        have := (idx_some hi).2
        rw [Nat.sub_zero] at this
        exact .inl ⟨i, h1, hb, .inl ⟨rfl, (List.getElem?_eq_some_iff.1 this).1⟩⟩
      | none =>
        rcases Nat.lt_or_ge k σ.length with hk | hk
        · rw [w2 k hi hk] at hb
          exact .inr ⟨rfl, hk, hb⟩
        · have h1 := w3 k hk
          rw [h1] at hb
          exact .inl ⟨_, h1, hb, .inr ⟨hk, rfl⟩⟩
    have noL : ∀ k b, idx 0 k L = none → (own k).bl b → ¬ Lv own0 b := by
      intro k b hi hb hl0
      obtain ⟨k', h1, h2⟩ := lv0 b hl0
      have := r.inj k k' b hb h2
      subst this
      exact idx_none hi h1
    have far : ∀ k b j, idx 0 k L = none → (own k).bl b → (own2 j).bl b → False := by
      intro k b j hi hb h2
      rcases ex.on b ⟨j, h2⟩ with h | h
      · exact noL k b hi hb h
      · have := r.lb k b hb; omega
    have am3 : ∀ k j, bkI σ.length L k = some j → ∀ e p A, (own2 k).am e p = some A → (own3 j).am e p = some A := by
      intro k j hj e p A hA
      unfold bkI at hj
      rw [nth_eq] at hj
      cases hk : L[k]? with
      | some k' =>
        rw [hk] at hj
        injection hj with hj
        subst hj
        rw [w1 _ _ (idx_of hnd hk)]
        exact hA
      | none =>
        rw [hk] at hj
        injection hj with hj
        subst hj
        have := List.getElem?_eq_none_iff.1 hk
        rw [w3 _ (by omega), show σ.length + (k - L.length) - σ.length + L.length = k by omega]
        exact hA
    have amk : ∀ k, k < σ.length → ∀ e p A, (own k).am e p = some A → (own3 k).am e p = some A := by
      intro k hk e p A hA
      cases hi : idx 0 k L with
      | none => rw [w2 k hi hk]; exact hA
      | some i =>
        have h2 := (idx_some hi).2
        rw [Nat.sub_zero] at h2
        rw [w1 k i hi]
        exact ex.ok i (List.getElem?_eq_some_iff.1 h2).1 e p A (by rw [o0 i k h2]; exact hA)
    have hheap : ∀ k b, idx 0 k L = none → (own k).bl b → w'.heap[b]? = w.heap[b]? := fun k b hi hb => ex.fr b (r.lb k b hb) (noL k b hi hb)
    have hVT : ∀ x v, VT F w x v → VT F2 w' x v := fun x v h => h.ext ex r0.sep
    have hlen := putAll_len (g := bkI σ.length L) L σ2 σ hle
    refine ⟨_, _, own3, F2, mv, rfl, hK, ⟨ex.os, ex.tape, ex.output, ex.sz, fun b hb hn => ex.fr b hb fun hl0 => ?_, ex.Fm, fun b hb => ?_, fun b hb => ?_, amk⟩,
      ⟨fun k hk => ?_, fun k k' b h1 h2 => ?_, fun k b hb hF => ?_, r2.fb, fun k b hb => ?_, fun k o ho => ?_⟩, by omega, mvS_VS (fun _ _ h => h) am3 4 v2 mv hv2⟩
    · obtain ⟨k, _, h2⟩ := lv0 b hl0
      exact hn ⟨k, h2⟩
    · rcases ex.Fn b hb with h | h | h
      · exact .inl h
      · exact .inr (.inl h)
      · obtain ⟨k, _, h2⟩ := lv0 b h
        exact .inr (.inr ⟨k, h2⟩)
    · obtain ⟨k, hb⟩ := hb
      rcases org k b hb with ⟨j, _, h2, _⟩ | ⟨_, _, h2⟩
      · rcases ex.on b ⟨j, h2⟩ with h | h
        · obtain ⟨k, _, h2⟩ := lv0 b h
          exact .inl ⟨k, h2⟩
        · exact .inr h
      · exact .inl ⟨k, h2⟩
    · rw [hlen] at hk
      rw [w3 k (by omega)]
      exact r2.unb _ (by omega)
    · rcases org k b h1 with ⟨j, _, g2, g3⟩ | ⟨g1, g2, g3⟩ <;> rcases org k' b h2 with ⟨j', _, q2, q3⟩ | ⟨q1, q2, q3⟩
      · have := r2.inj j j' b g2 q2
        subst this
        rcases g3 with ⟨g3, g4⟩ | ⟨g3, g4⟩ <;> rcases q3 with ⟨q3, q4⟩ | ⟨q3, q4⟩
        · have a1 := (idx_some g3).2
          have a2 := (idx_some q3).2
          rw [a1] at a2
          injection a2
        · omega
        · omega
        · omega
      · exact (far k' b j q1 q3 g2).elim
      · exact (far k b j' g1 g3 q2).elim
      · exact r.inj k k' b g3 q3
    · rcases org k b hb with ⟨j, _, h2, _⟩ | ⟨h1, h2, h3⟩
      · exact r2.sep j b h2 hF
      · rcases ex.Fn b hF with h | h | h
        · exact r.sep k b h3 h
        · have := r.lb k b h3; omega
        · exact noL k b h1 h3 h
    · rcases org k b hb with ⟨j, _, h2, _⟩ | ⟨h1, h2, h3⟩
      · exact r2.lb j b h2
      · exact Nat.lt_of_lt_of_le (r.lb k b h3) ex.sz
    · rw [putAll_get L σ2 σ hnd hlt hle k] at ho
      cases hi : idx 0 k L with
      | some i =>
        rw [hi] at ho
        simp only [Option.map_eq_some_iff] at ho
        obtain ⟨o', h1, rfl⟩ := ho
        rw [w1 k i hi]
        exact (r2.obj i o' h1).mv am3
      | none =>
        rw [hi] at ho
        simp only at ho
        split at ho
        · rename_i hk
          rw [w2 k hi hk]
          exact (r.obj k o ho).keep (fun b hb => hheap k b hi hb) hVT fun x v h => h.map' hVT fun k' e p A hA => amk k' (r.lt_of hA) e p A hA
        · rename_i hk
          simp only [Option.map_eq_some_iff] at ho
          obtain ⟨o', h1, rfl⟩ := ho
          rw [w3 k (by omega)]
          exact (r2.obj _ o' h1).mv am3
theorem kills_range : ∀ (s : Sto), kills (List.range s.length) s = List.replicate s.length .dead := by
  intro s
  apply List.ext_getElem?
  intro k
  rw [kills_get, List.getElem?_replicate]
  by_cases h : k < s.length
  · simp [h]
  · simp [h]
theorem ICalls.drop {f : FuncId} {vs : List SV} {p q : SV → Sto → Prop} (h : ICalls P f vs σ p) (k : ∀ v s, p v s → q v (List.replicate s.length .dead)) : ICalls P f vs σ q := by
  unfold ICalls at *
  refine ⟨h.1, ?_⟩
  intro own F w mvs h1 h2 r
  refine (h.2 own F w mvs h1 h2 r).mono ?_
  rintro e w' ⟨v, s, own', F', mv, rfl, h5, h6, h7, h8, h9⟩
  obtain ⟨r2, e2⟩ := h7.drops (List.range s.length)
  rw [kills_range] at r2
  exact ⟨v, _, _, F', mv, rfl, k v s h5, h6.trans (e2.mono h8), r2, by simpa using h8, h9.ext h7 e2⟩
theorem ICalls.thaw (E : TypeId) (sz : Nat) {f : FuncId} {vs : List SV} {p q : SV → Sto → Prop} (h : ICalls P f vs σ p) (k : ∀ v s, p v s → q v s ∨ (v = .t .nsl ∧ q (.osl s.length 0 0) (s ++ [.row E sz []]))) : ICalls P f vs σ q := by
  unfold ICalls at *
  refine ⟨h.1, ?_⟩
  intro own F w mvs h1 h2 r
  refine (h.2 own F w mvs h1 h2 r).mono ?_
  rintro e w' ⟨v, σ', own', F', mv, rfl, h5, h6, h7, h8, h9⟩
  rcases k v σ' h5 with h10 | ⟨rfl, h10⟩
  · exact ⟨v, σ', own', F', mv, rfl, h10, h6, h7, h8, h9⟩
  · cases h9 with
    | t _ _ hv =>
      cases hv
      obtain ⟨own2, r1, e1, ha, _⟩ := h7.thaw1 E sz none
      exact ⟨_, _, own2, F', _, rfl, h10, h6.trans (e1.mono h8), r1, by simp; omega, .refE _ _ _ none ha⟩
end
end Go.Proofs.Ytgladinljapmkaa.Am

/- What is said of graphs in this seat. -/
namespace Go.Proofs.Ytgladinljapmkaa.Am
open Go Go.Proofs
set_option maxRecDepth 10000
set_option maxHeartbeats 2000000
set_option linter.unusedVariables false
set_option linter.unusedSimpArgs false
theorem nthD_mem {α : Type} [Inhabited α] {l : List α} {i : Nat} (h : i < l.length) : nthD l i ∈ l := by
  rw [nthD_get h]; exact List.getElem_mem h
structure Block.tiny (b : Block) : Prop where
  code : b.code.length ≤ 2 ^ 20
  args : ∀ x ∈ b.code, x.args.length ≤ 2 ^ 20
  arrs : ∀ x ∈ b.code, x.arrs.length ≤ 2 ^ 20
  cases : b.fin.cases.length ≤ 2 ^ 20
  targets : b.fin.targets.length ≤ 2 ^ 20
structure Graph.tiny (g : Graph) : Prop where
  params : g.params.length ≤ 2 ^ 20
  arrays : g.arrays.length ≤ 2 ^ 20
  blocks : g.blocks.length ≤ 2 ^ 20
  all : ∀ b ∈ g.blocks, b.tiny
abbrev gvar (g : Graph) : SObj := .var 26 [.t (ilist g.params), .t (.int .i64 g.temps), .t (.sl 2 (g.arrays.map Arr.t)), .t (.sl 10 (g.blocks.map Block.t))]
abbrev gzero : SObj := .var 26 [.t .nsl, .t (.int .i64 0), .t .nsl, .t .nsl]
structure Module.tiny (m : Module) : Prop where
  globals : m.globals.length ≤ 2 ^ 20
  arrays : m.arrays.length ≤ 2 ^ 20
  funcs : m.funcs.length ≤ 2 ^ 20
  all : ∀ g ∈ m.funcs, g.tiny
abbrev mvar (m : Module) : SObj := .var 60 [.t (ulist m.globals), .t (ilist m.arrays), .t (.sl 4 (m.funcs.map Graph.t)), .t (.int .i64 m.main)]
abbrev mzero : SObj := .var 60 [.t .nsl, .t .nsl, .t .nsl, .t (.int .i64 0)]
def Ins.o (x : Ins) : T := .agg [.int .i64 x.op, .int .i64 x.d, .int .i64 x.a, .int .i64 x.b, .int .i64 x.f, .int .u32 x.n, .nst 3 1 (x.args.map fun n => .int .i64 n), .nst 3 1 (x.arrs.map fun n => .int .i64 n)]
def Block.o (x : Block) : T := .agg [.nst 87 8 (x.code.map Ins.o), .int .i64 x.fin.kind, .int .i64 x.fin.op, .int .i64 x.fin.a, .int .i64 x.fin.b, .int .u32 x.fin.n, .int .i64 x.fin.to, .int .i64 x.fin.els, .nst 80 2 (x.fin.cases.map Case.t), .nst 3 1 (x.fin.targets.map fun n => .int .i64 n)]
def Graph.o (x : Graph) : T := .agg [.nst 3 1 (x.params.map fun n => .int .i64 n), .int .i64 x.temps, .nst 130 2 (x.arrays.map Arr.t), .nst 51 10 (x.blocks.map Block.o)]
def Module.o (x : Module) : T := .agg [.nst 44 1 (x.globals.map fun n => .int .u32 n), .nst 3 1 (x.arrays.map fun n => .int .i64 n), .nst 26 4 (x.funcs.map Graph.o), .int .i64 x.main]
theorem nst_le (E : TypeId) (sz : Nat) (xs : List T) : Le (.nst E sz xs) (.sl sz xs) := .nst _ _ _ _ (.refl _)
theorem Ins.o_le (x : Ins) : LeL x.o.cells x.t.cells := by
  unfold Ins.o Ins.t
  exact .cons (.refl _) (.cons (.refl _) (.cons (.refl _) (.cons (.refl _) (.cons (.refl _) (.cons (.refl _) (.cons (nst_le _ _ _) (.cons (nst_le _ _ _) .nil)))))))
theorem Block.o_le (x : Block) : LeL x.o.cells x.t.cells := by
  unfold Block.o Block.t
  exact .cons (.nst _ _ _ _ (Le.slmap Ins.o_le fun _ => rfl)) (.cons (.refl _) (.cons (.refl _) (.cons (.refl _) (.cons (.refl _) (.cons (.refl _) (.cons (.refl _) (.cons (.refl _) (.cons (nst_le _ _ _) (.cons (nst_le _ _ _) .nil)))))))))
theorem Graph.o_le (x : Graph) : LeL x.o.cells x.t.cells := by
  unfold Graph.o Graph.t
  exact .cons (nst_le _ _ _) (.cons (.refl _) (.cons (nst_le _ _ _) (.cons (.nst _ _ _ _ (Le.slmap Block.o_le fun _ => rfl)) .nil)))
theorem Module.o_le (x : Module) : Le x.o x.t := by
  unfold Module.o Module.t
  exact Le.aggL (.cons (nst_le _ _ _) (.cons (nst_le _ _ _) (.cons (.nst _ _ _ _ (Le.slmap Graph.o_le fun _ => rfl)) (.cons (.refl _) .nil))))
inductive ClL : List T → Prop where
  | nil : ClL []
  | int {k : IntKind} {n : Int} {l : List T} (h : ClL l) : ClL (.int k n :: l)
  | nst {E : TypeId} {sz : Nat} {xs l : List T} (hx : ∀ x ∈ xs, ∀ c ∈ x.cells, Clean c) (h : ClL l) : ClL (.nst E sz xs :: l)
theorem ClL.out {l : List T} (h : ClL l) : ∀ c ∈ l, Clean c := by
  induction h with
  | nil => exact fun _ h => nomatch h
  | int h ih =>
    intro c hc
    rcases List.mem_cons.1 hc with rfl | hc
    · exact .plain _ (.int _ _)
    · exact ih c hc
  | nst hx h ih =>
    intro c hc
    rcases List.mem_cons.1 hc with rfl | hc
    · exact .nst _ _ _ hx
    · exact ih c hc
theorem clean_map {α : Type} {f : α → T} {l : List α} (h : ∀ a, ClL (f a).cells) : ∀ x ∈ l.map f, ∀ c ∈ x.cells, Clean c := by
  intro x hx c hc
  obtain ⟨a, _, rfl⟩ := List.mem_map.1 hx
  exact (h a).out c hc
theorem clean_ints {k : IntKind} {l : List Int} : ∀ x ∈ l.map (fun n => T.int k n), ∀ c ∈ x.cells, Clean c := clean_map fun _ => .int .nil
theorem clean_case {l : List Case} : ∀ x ∈ l.map Case.t, ∀ c ∈ x.cells, Clean c := clean_map fun _ => .int (.int .nil)
theorem clean_arr {l : List Arr} : ∀ x ∈ l.map Arr.t, ∀ c ∈ x.cells, Clean c := clean_map fun _ => .int (.int .nil)
theorem clean_ins {l : List Ins} : ∀ x ∈ l.map Ins.o, ∀ c ∈ x.cells, Clean c := clean_map fun _ => .int (.int (.int (.int (.int (.int (.nst clean_ints (.nst clean_ints .nil)))))))
theorem clean_block {l : List Block} : ∀ x ∈ l.map Block.o, ∀ c ∈ x.cells, Clean c := clean_map fun _ => .nst clean_ins (.int (.int (.int (.int (.int (.int (.int (.nst clean_case (.nst clean_ints .nil)))))))))
theorem clean_graph {l : List Graph} : ∀ x ∈ l.map Graph.o, ∀ c ∈ x.cells, Clean c := clean_map fun _ => .nst clean_ints (.int (.nst clean_arr (.nst clean_block .nil)))
end Go.Proofs.Ytgladinljapmkaa.Am
