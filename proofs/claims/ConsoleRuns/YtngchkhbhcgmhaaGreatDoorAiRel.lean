/- A part of the proof of ConsoleRuns: AiRel. -/
import Derived.Test.YtngchkhbhcgmhaaGreatDoorAiDef
import Derived.Laws.Sem
import Derived.Laws.Cells
import Derived.Laws.Rows
import Derived.Laws.Tables
import Derived.Tactics
/- The relation between the interpreter's values and memory and the model's: definitions, and what follows at once. -/
namespace Go.Ai

theorem beq_of {a b : Nat} (h : a = b) : Nat.beq a b = true := by subst h; exact Nat.beq_refl a

theorem Tr.get_setF {α : Type} (x : α) : ∀ (k : Nat) (t : Tr α) (n m : Nat), n < k → (Tr.setF x k t n).get m = if m = n then some x else t.get m
  | 0, _, _, _, h => by omega
  | k + 1, t, n, m, h => by
    have key : ∀ (t' : Tr α) (a b : Nat), a < k + 1 → (a + 1 < k + 1) → Nat.mod a 2 = Nat.mod b 2 →
        (Tr.setF x k t' (Nat.div a 2)).get (Nat.div b 2) = if b = a then some x else t'.get (Nat.div b 2) := by
      intro t' a b _ ha hp
      have hp' : a % 2 = b % 2 := hp
      rw [Tr.get_setF x k t' (Nat.div a 2) (Nat.div b 2) (by show a / 2 < k; omega)]
      have e : (Nat.div b 2 = Nat.div a 2) ↔ b = a := by
        show b / 2 = a / 2 ↔ b = a
        omega
      by_cases hb : b = a
      · rw [if_pos (e.2 hb), if_pos hb]
      · rw [if_neg (fun h => hb (e.1 h)), if_neg hb]
    cases n with
    | zero =>
      cases t with
      | lf => cases m <;> simp [Tr.setF, Tr.get]; split <;> rfl
      | nd l y r => cases m <;> simp [Tr.setF, Tr.get]
    | succ n =>
      cases t with
      | lf =>
        cases hn : Nat.beq (Nat.mod n 2) 0 with
        | true =>
          have hn' : n % 2 = 0 := Nat.eq_of_beq_eq_true hn
          cases m with
          | zero => simp [Tr.setF, Tr.get, hn]
          | succ m =>
            cases hm : Nat.beq (Nat.mod m 2) 0 with
            | true =>
              have hm' : m % 2 = 0 := Nat.eq_of_beq_eq_true hm
              simp only [Tr.setF, Tr.get, hn, hm]
              rw [key .lf n m (by omega) h (by show n % 2 = m % 2; omega)]
              simp [Tr.get]
            | false =>
              have hm' : m % 2 ≠ 0 := fun e => by have : Nat.beq (Nat.mod m 2) 0 = true := beq_of e; rw [hm] at this; cases this
              simp only [Tr.setF, Tr.get, hn, hm]
              rw [if_neg (by omega)]
        | false =>
          have hn' : n % 2 ≠ 0 := fun e => by have : Nat.beq (Nat.mod n 2) 0 = true := beq_of e; rw [hn] at this; cases this
          cases m with
          | zero => simp [Tr.setF, Tr.get, hn]
          | succ m =>
            cases hm : Nat.beq (Nat.mod m 2) 0 with
            | true =>
              have hm' : m % 2 = 0 := Nat.eq_of_beq_eq_true hm
              simp only [Tr.setF, Tr.get, hn, hm]
              rw [if_neg (by omega)]
            | false =>
              have hm' : m % 2 ≠ 0 := fun e => by have : Nat.beq (Nat.mod m 2) 0 = true := beq_of e; rw [hm] at this; cases this
              simp only [Tr.setF, Tr.get, hn, hm]
              rw [key .lf n m (by omega) h (by show n % 2 = m % 2; omega)]
              simp [Tr.get]
      | nd l y r =>
        cases hn : Nat.beq (Nat.mod n 2) 0 with
        | true =>
          have hn' : n % 2 = 0 := Nat.eq_of_beq_eq_true hn
          cases m with
          | zero => simp [Tr.setF, Tr.get, hn]
          | succ m =>
            cases hm : Nat.beq (Nat.mod m 2) 0 with
            | true =>
              have hm' : m % 2 = 0 := Nat.eq_of_beq_eq_true hm
              simp only [Tr.setF, Tr.get, hn, hm]
              rw [key l n m (by omega) h (by show n % 2 = m % 2; omega)]
              simp
            | false =>
              have hm' : m % 2 ≠ 0 := fun e => by have : Nat.beq (Nat.mod m 2) 0 = true := beq_of e; rw [hm] at this; cases this
              simp only [Tr.setF, Tr.get, hn, hm]
              rw [if_neg (by omega)]
        | false =>
          have hn' : n % 2 ≠ 0 := fun e => by have : Nat.beq (Nat.mod n 2) 0 = true := beq_of e; rw [hn] at this; cases this
          cases m with
          | zero => simp [Tr.setF, Tr.get, hn]
          | succ m =>
            cases hm : Nat.beq (Nat.mod m 2) 0 with
            | true =>
              have hm' : m % 2 = 0 := Nat.eq_of_beq_eq_true hm
              simp only [Tr.setF, Tr.get, hn, hm]
              rw [if_neg (by omega)]
            | false =>
              have hm' : m % 2 ≠ 0 := fun e => by have : Nat.beq (Nat.mod m 2) 0 = true := beq_of e; rw [hm] at this; cases this
              simp only [Tr.setF, Tr.get, hn, hm]
              rw [key r n m (by omega) h (by show n % 2 = m % 2; omega)]
              simp

theorem Tr.get_set {α : Type} (t : Tr α) (n m : Nat) (x : α) : (t.set n x).get m = if m = n then some x else t.get m :=
  Tr.get_setF x (n + 1) t n m (Nat.lt_succ_self n)
theorem Tr.get_lf {α : Type} (n : Nat) : (Tr.lf : Tr α).get n = none := rfl

theorem get_stL : ∀ (vs : List AV) (c : Tr AV) (o i : Nat), (stL c o vs).get i = if o ≤ i ∧ i < o + vs.length then vs[i - o]? else c.get i
  | [], c, o, i => by simp [stL]; intro h1 h2; omega
  | v :: vs, c, o, i => by
    rw [stL, get_stL vs]
    show (if o + 1 ≤ i ∧ i < o + 1 + vs.length then vs[i - (o + 1)]? else (c.set o v).get i) = _
    rw [Tr.get_set]
    simp only [List.length_cons]
    by_cases h0 : i = o
    · subst h0
      rw [if_neg (by omega), if_pos rfl, if_pos (by omega)]
      simp
    · by_cases h1 : o + 1 ≤ i ∧ i < o + 1 + vs.length
      · rw [if_pos h1, if_pos (by omega), show i - o = (i - (o + 1)) + 1 by omega]
        simp
      · rw [if_neg h1, if_neg h0, if_neg (by omega)]

theorem ldN_some : ∀ (n : Nat) (c : Tr AV) (o : Nat) (l : List AV), ldN c o n = some l → l.length = n ∧ ∀ i, i < n → c.get (o + i) = l[i]?
  | 0, c, o, l, h => by simp [ldN] at h; subst h; simp
  | n + 1, c, o, l, h => by
    unfold ldN at h
    split at h
    · rename_i v hv
      split at h
      · rename_i r hr
        simp at h
        obtain ⟨h1, h2⟩ := ldN_some n c (o + 1) r hr
        subst h
        refine ⟨by simp [h1], fun i hi => ?_⟩
        cases i with
        | zero => simpa using hv
        | succ i =>
          have := h2 i (by omega)
          rw [show o + (i + 1) = o + 1 + i by omega, this]
          simp
      · cases h
    · cases h

theorem ldN_of : ∀ (n : Nat) (c : Tr AV) (o : Nat) (l : List AV), l.length = n → (∀ i, i < n → c.get (o + i) = l[i]?) → ldN c o n = some l
  | 0, c, o, l, h, _ => by simp [List.length_eq_zero_iff] at h; subst h; rfl
  | n + 1, c, o, [], h, _ => by simp at h
  | n + 1, c, o, v :: l, h, hg => by
    have h0 := hg 0 (by omega)
    simp at h0
    have := ldN_of n c (o + 1) l (by simpa using h) (fun i hi => by
      have := hg (i + 1) (by omega)
      rw [show o + (i + 1) = o + 1 + i by omega] at this
      simpa using this)
    unfold ldN
    rw [h0]
    show (match ldN c (o + 1) n with | some l => some (v :: l) | none => none) = _
    rw [this]

/-! The relation. -/
structure Loc where
  b : Nat
  p : Nat
  m : Nat
  N : Nat

abbrev Emb := Nat → Nat → Option Loc

section
variable (P : Program) (ι : Emb)

mutual
inductive VRel : AV → Value → Prop
  | bool (b : Bool) : VRel (.bool b) (.bool b)
  | int (k : IntKind) (n : Int) : VRel (.int k n) (.int k n)
  | str (s : ByteArray) : VRel (strOf s.data.toList) (.string s)
  | ptr {F g o e : Nat} {L : Loc} (h : ι F g = some L) (he : o + e ≤ L.m) : VRel (.ptr F g o e) (.pointer (some ⟨L.b, L.p + o, none⟩))
  | nilp : VRel .nilp (.pointer none)
  | slc {F g o s n : Nat} {c : Option Nat} {L : Loc} {a : Addr} {k : Nat} (h : ι F g = some L) (hs : 0 < s) (hn : n ≤ k) (hm : o + n * s ≤ L.m)
      (hN : L.p + o + k * s ≤ L.N) (hc : ∀ x, c = some x → k = x ∧ o + x * s ≤ L.m) (hu : c = none → L.p + o + k * s = L.N) (ha : k ≠ 0 → a = ⟨L.b, L.p + o, none⟩) :
      VRel (.slc F g o s n c) (.slice (some a) n k)
  | nils : VRel .nils (.slice none 0 0)
  | map {F : Nat} {L : Loc} (h : ι F 0 = some L) : VRel (.map F) (.map (some L.b))
  | nilm : VRel .nilm (.map none)
  | fn {f : Fn} {a b : List AV} {x y : Array Value} (ha : VRelL a x.toList) (hb : VRelL b y.toList) : VRel (.fn f a b) (.func f x y)
  | nilf : VRel .nilf .nilFunc
  | ifc {t : TypeId} {v : AV} {x : Value} (h : VRel v x) : VRel (.ifc t v) (.iface t x)
  | nili : VRel .nili .nilIface
  | agg {l : List AV} {x : Array Value} (h : VRelL l x.toList) : VRel (.agg l) (.agg x)
  | tup {l : List AV} {x : Array Value} (h : VRelL l x.toList) : VRel (.tup l) (.tuple x)
  | th (t : TypeId) : VRel (.th t) (.pointer (some ⟨P.globals.size, t, none⟩))
  | junk (v : Value) : VRel .junk v
inductive VRelL : List AV → List Value → Prop
  | nil : VRelL [] []
  | cons {v : AV} {x : Value} {l : List AV} {m : List Value} (h : VRel v x) (hl : VRelL l m) : VRelL (v :: l) (x :: m)
end
end

def Emb.le (ι κ : Emb) : Prop := ∀ F g L, ι F g = some L → κ F g = some L
theorem Emb.le.refl (ι : Emb) : Emb.le ι ι := fun _ _ _ h => h
theorem Emb.le.trans {ι κ μ : Emb} (h : Emb.le ι κ) (h' : Emb.le κ μ) : Emb.le ι μ := fun F g L e => h' F g L (h F g L e)

section
variable {P : Program} {ι κ : Emb}

mutual
theorem VRel.mono (hk : Emb.le ι κ) {v : AV} {x : Value} (h : VRel P ι v x) : VRel P κ v x := by
  cases h with
  | bool b => exact .bool b
  | int k n => exact .int k n
  | str s => exact .str s
  | ptr h he => exact .ptr (hk _ _ _ h) he
  | nilp => exact .nilp
  | slc h hs hn hm hN hc hu ha => exact .slc (hk _ _ _ h) hs hn hm hN hc hu ha
  | nils => exact .nils
  | map h => exact .map (hk _ _ _ h)
  | nilm => exact .nilm
  | fn ha hb => exact .fn (VRelL.mono hk ha) (VRelL.mono hk hb)
  | nilf => exact .nilf
  | ifc h => exact .ifc (VRel.mono hk h)
  | nili => exact .nili
  | agg h => exact .agg (VRelL.mono hk h)
  | tup h => exact .tup (VRelL.mono hk h)
  | th t => exact .th t
  | junk _ => exact .junk _
theorem VRelL.mono (hk : Emb.le ι κ) {l : List AV} {m : List Value} (h : VRelL P ι l m) : VRelL P κ l m := by
  cases h with
  | nil => exact .nil
  | cons h hl => exact .cons (VRel.mono hk h) (VRelL.mono hk hl)
end

theorem VRelL.length : ∀ {l : List AV} {m : List Value}, VRelL P ι l m → l.length = m.length
  | _, _, .nil => rfl
  | _, _, .cons _ h => by simp [h.length]
theorem VRelL.get : ∀ {l : List AV} {m : List Value}, VRelL P ι l m → ∀ (i : Nat) (v : AV), l[i]? = some v → ∃ x : Value, m[i]? = some x ∧ VRel P ι v x
  | _, _, .nil, i, v, h => by simp at h
  | _, _, .cons h0 _, 0, _, h => by simp at h; subst h; exact ⟨_, by simp, h0⟩
  | _, _, .cons _ hl, i + 1, v', h => by simpa using hl.get i v' (by simpa using h)
theorem VRelL.of_get : ∀ {l : List AV} {m : List Value}, l.length = m.length → (∀ (i : Nat) (v : AV) (x : Value), l[i]? = some v → m[i]? = some x → VRel P ι v x) → VRelL P ι l m
  | [], [], _, _ => .nil
  | [], _ :: _, h, _ => by simp at h
  | _ :: _, [], h, _ => by simp at h
  | v :: l, x :: m, h, hg => .cons (hg 0 v x (by simp) (by simp)) (VRelL.of_get (by simpa using h) fun i v x h1 h2 => hg (i + 1) v x (by simpa using h1) (by simpa using h2))
theorem VRelL.append : ∀ {l l' : List AV} {m m' : List Value}, VRelL P ι l m → VRelL P ι l' m' → VRelL P ι (l ++ l') (m ++ m')
  | _, _, _, _, .nil, h' => h'
  | _, _, _, _, .cons h hl, h' => .cons h (hl.append h')
theorem VRelL.take : ∀ {l : List AV} {m : List Value} (n : Nat), VRelL P ι l m → VRelL P ι (l.take n) (m.take n)
  | _, _, 0, _ => by simp; exact .nil
  | _, _, _ + 1, .nil => by simp; exact .nil
  | _, _, n + 1, .cons h hl => by simp; exact .cons h (hl.take n)
theorem VRelL.drop : ∀ {l : List AV} {m : List Value} (n : Nat), VRelL P ι l m → VRelL P ι (l.drop n) (m.drop n)
  | _, _, 0, h => by simpa using h
  | _, _, _ + 1, .nil => by simp; exact .nil
  | _, _, n + 1, .cons _ hl => by simpa using hl.drop n

end
end Go.Ai
