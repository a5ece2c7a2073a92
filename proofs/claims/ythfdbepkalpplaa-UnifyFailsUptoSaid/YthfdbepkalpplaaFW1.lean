/- Part of the proofs of the statements of this seat. -/
import Derived.Test.YthfdbepkalpplaaFW0
import Derived.Scope
set_option maxRecDepth 10000
set_option linter.unusedVariables false
set_option linter.unusedSimpArgs false
namespace Go.Fr
open Go Go.RowKit
section
variable {P:Program} {F:Frz} {L:Loc} {ρ:Env} {a:Act} {w:World} {K:Kont} {o:Oper} {Q:Exit → Act → World → Prop}
theorem built_fits {zs:List Value} {l:List (Nat × Nat × X)} (h:(l.all fun p => Nat.ble (p.1 + p.2.1) zs.length) = true):∀ off n x,(off,n,x) ∈ l → off + n ≤ zs.length:=by
 intro off n x hm
 have:=List.all_eq_true.1 h _ hm
 exact Nat.le_of_ble_eq_true this
set_option maxHeartbeats 1000000 in
theorem evalOp_sound {own:Bool} {s:SOp} (hs:St F L w) (he:EnvOk L ρ a) (hd:∀ k,o.dst = some k → k < a.tmps.size) (hl:lowOp P own o.op = some s)
  (hK:evalOp P s o.dst F L ρ K):o.wp P a w (Next1 F L w a K) Q:=by
 cases ho:o.op <;> rw [ho] at hl <;> simp only [lowOp] at hl <;> try (cases hl; done)
 case move y =>
  split at hl
  case h_2 => cases hl
  rename_i x hx
  injection hl with hl; subst hl
  exact op_mov hs he hd (.inl ho) hx hK
 case assign y =>
  split at hl
  case h_2 => cases hl
  rename_i x hx
  injection hl with hl; subst hl
  exact op_mov hs he hd (.inr ho) hx hK
 case pick c y z =>
  split at hl
  case h_2 => cases hl
  rename_i h1 h2 h3
  injection hl with hl; subst hl
  exact op_pick hs he hd ho h1 h2 h3 hK
 case box t y =>
  split at hl
  case h_2 => cases hl
  rename_i h1 ht0
  have ht0:=of_decide_eq_false ht0
  injection hl with hl
  cases own
  ·subst hl
   exact op_box hs he hd ho h1 ht0 hK
  ·subst hl
   exact op_boxF hs he hd ho h1 hK
 case alloc t =>
  split at hl
  case h_2 => cases hl
  rename_i h1 ht0
  have ht0:=of_decide_eq_false ht0
  split at hl
  case h_2 => cases hl
  rename_i h2
  injection hl with hl; subst hl
  exact op_alloc hs he hd ho h1 h2 ht0 hK
 case buildSlice t n ps =>
  split at hl
  case h_2 => cases hl
  rename_i h1 h2
  split at hl
  case h_2 => cases hl
  rename_i h3
  split at hl
  case h_2 => cases hl
  rename_i h4 h5 h6
  have h4:=of_decide_eq_true h4
  have h5:=of_decide_eq_true h5
  injection hl with hl
  cases own
  ·subst hl
   exact op_mkF hs he hd ho h1 h3 h6 h2 h4 h5.1 hK
  ·subst hl
   exact op_mkR hs he hd ho h1 h3 h6 h2 h4 h5.1 h5.2 hK
 case build t ps =>
  split at hl
  case h_2 => cases hl
  rename_i h1 h2
  split at hl
  case h_2 => cases hl
  rename_i h3 h4
  split at hl
  case h_2 => cases hl
  rename_i h5 h6
  injection hl with hl; subst hl
  exact op_build hs he hd ho h1 h2 h3 h4 (fun f hf => List.all_eq_true.1 h5 f hf) (built_fits h6) hK
 case load t y =>
  split at hl
  ·rename_i d i x h1 h2 h3
   injection hl with hl
   refine op_load (d:=d) (i:=i) (n:=match isAggD d with | true => i.size | false => 1) hs he hd ho h1 h2 h3 rfl ?_
   cases hdd:isAggD d <;> simp only [hdd] at hl ⊢ <;> subst hl <;> exact hK
  ·rename_i h1 h2 h3
   cases y with
   | global g =>
    simp only [lowGl] at hl
    split at hl
    ·rename_i h4
     injection hl with hl; subst hl
     exact op_gload hs he hd ho h1 h2 rfl h4 hK
    ·cases hl
   | tmp n => cases hl
   | const v => cases hl
   | func f => cases hl
  ·rename_i h1 h2 h3
   split at hl
   case h_2 => injection hl with hl; subst hl; exact False.elim hK
   rename_i h4
   injection hl with hl; subst hl
   cases y with
   | global g =>
    simp only [lowGl] at h4
    split at h4
    ·rename_i h5
     injection h4 with h4; subst h4
     exact op_gload hs he hd ho h1 h2 rfl h5 hK
    ·cases h4
   | tmp n => cases h4
   | const v => cases h4
   | func f => cases h4
  ·injection hl with hl; subst hl
   exact False.elim hK
  ·cases hl
 case lookup t y z ok =>
  split at hl
  ·split at hl
   case h_2 => cases hl
   rename_i h1 h2 h3
   split at hl
   case h_2 => cases hl
   rename_i h4 h5
   split at hl
   case h_2 => cases hl
   rename_i h6
   injection hl with hl; subst hl
   exact op_look hs he hd ho h1 h4 h5 h6 h2 h3 hK
  ·split at hl
   case h_2 => cases hl
   rename_i h1 h2 h3
   split at hl
   case h_3 => cases hl
   ·rename_i h4 h5
    split at hl
    case h_2 => cases hl
    rename_i h6
    injection hl with hl; subst hl
    exact op_mlook (str:=false) hs he hd ho h1 h4 h5 h6 h2 h3 hK
   ·rename_i h4 h5
    split at hl
    case h_2 => cases hl
    rename_i h6
    injection hl with hl; subst hl
    exact op_mlook (str:=true) hs he hd ho h1 h4 h5 h6 h2 h3 hK
 case makeMap t r =>
  cases r with
  | none =>
   simp only [lowOp,Option.some.injEq] at hl
   subst hl
   exact op_mkmap hs he hd ho hK
  | some r => simp only [lowOp] at hl; cases hl
 case mapUpdate t y z u =>
  split at hl
  case h_2 => cases hl
  rename_i h1 h2 h3 h4
  split at hl
  case h_3 => cases hl
  ·rename_i h5
   injection hl with hl; subst hl
   exact op_mupd (str:=false) hs he hd (.inl ho) h1 h5 h2 h3 h4 hK
  ·rename_i h5
   injection hl with hl; subst hl
   exact op_mupd (str:=true) hs he hd (.inl ho) h1 h5 h2 h3 h4 hK
 case insert t y z u =>
  split at hl
  case h_2 => cases hl
  rename_i h1 h2 h3 h4
  split at hl
  case h_3 => cases hl
  ·rename_i h5
   injection hl with hl; subst hl
   exact op_mupd (str:=false) hs he hd (.inr ho) h1 h5 h2 h3 h4 hK
  ·rename_i h5
   injection hl with hl; subst hl
   exact op_mupd (str:=true) hs he hd (.inr ho) h1 h5 h2 h3 h4 hK
 case range t y =>
  split at hl
  case h_2 => cases hl
  rename_i h1 h2
  injection hl with hl; subst hl
  exact op_mrange hs he hd ho h1 h2 hK
 case entry y =>
  split at hl
  case h_2 => cases hl
  rename_i h1
  injection hl with hl; subst hl
  exact op_mentry hs he hd ho h1 hK
 case next y b =>
  cases b with
  | true => simp only [lowOp] at hl; cases hl
  | false =>
   simp only [lowOp] at hl
   split at hl
   case h_2 => cases hl
   rename_i h1
   injection hl with hl; subst hl
   exact op_mnext hs he hd ho h1 hK
 case store t y z =>
  split at hl
  case h_2 => cases hl
  rename_i h1 h2 h3
  split at hl
  case h_1 => cases hl
  rename_i h4
  have h4:=of_decide_eq_false h4
  injection hl with hl; subst hl
  exact op_store hs he hd ho h1 h4 h2 h3 hK
 case makeInterface t y =>
  split at hl
  ·cases hl
  ·rename_i d x h1 h2 h3
   injection hl with hl; subst hl
   exact op_mkif hs he hd ho h2 h1 h3 hK
  ·cases hl
 case typeAssert y xt t ok =>
  cases ok with
  | false => cases hl
  | true =>
   simp only [] at hl
   split at hl
   ·cases hl
   ·rename_i d i x h4 h1 h2 h3
    split at hl
    case h_2 => cases hl
    rename_i h5
    injection hl with hl; subst hl
    exact op_tas hs he hd ho h1 h4 h2 h5 h3 hK
   ·cases hl
 case panic y =>
  split at hl
  case h_2 => cases hl
  injection hl with hl; subst hl
  exact hK.elim
 case nilCheck y =>
  split at hl
  case h_2 => cases hl
  rename_i h1 h2
  injection hl with hl; subst hl
  exact op_nilck hs he hd ho h1 h2 hK
 case binOp op t y z t' =>
  split at hl
  case h_2 => cases hl
  rename_i d x1 x2 h1 h2 h3
  split at hl <;> first
   | (cases hl; done)
   | (injection hl with hl; subst hl; first
     | exact op_eqB (neg:=false) hs he hd ho h1 h2 h3 hK
     | exact op_eqB (neg:=true) hs he hd ho h1 h2 h3 hK
     | exact op_eqP (neg:=false) hs he hd ho h1 h2 h3 hK
     | exact op_eqP (neg:=true) hs he hd ho h1 h2 h3 hK
     | exact op_eqS (neg:=false) hs he hd ho h1 h2 h3 hK
     | exact op_eqS (neg:=true) hs he hd ho h1 h2 h3 hK
     | exact op_eqF (neg:=false) hs he hd ho h1 h2 h3 hK
     | exact op_eqF (neg:=true) hs he hd ho h1 h2 h3 hK
     | exact op_bin hs he hd ho h2 h3 hK)
   | (split at hl
      case h_2 => cases hl
      rename_i k1 k2 k3
      injection hl with hl; subst hl
      first
       | exact op_eqA (neg:=false) hs he hd ho h1 k1 k2 k3 h2 h3 hK
       | exact op_eqA (neg:=true) hs he hd ho h1 k1 k2 k3 h2 h3 hK)
   | (split at hl
      case h_2 => cases hl
      rename_i k1
      injection hl with hl; subst hl
      first
       | exact op_eqN (neg:=false) hs he hd ho h1 h2 h3 k1 hK
       | exact op_eqN (neg:=true) hs he hd ho h1 h2 h3 k1 hK)
 case unOp op t y =>
  split at hl
  case h_2 => cases hl
  rename_i h1
  injection hl with hl; subst hl
  exact op_un hs he hd ho h1 hK
 case convert s t y =>
  split at hl
  case h_4 => cases hl
  ·rename_i h1 h2 h3
   injection hl with hl; subst hl
   exact op_conv hs he hd ho h1 h2 h3 hK
  ·rename_i h1 h2 h3
   split at hl
   case h_2 => cases hl
   rename_i h4
   injection hl with hl; subst hl
   exact op_b2s hs he hd ho h1 h2 h4 h3 hK
  ·rename_i h1 h2 h3
   split at hl
   case h_2 => cases hl
   rename_i h4
   injection hl with hl; subst hl
   exact op_s2b hs he hd ho h1 h2 h4 h3 hK
 case makeFunc fn fi ca =>
  cases fn <;> simp only [] at hl <;> try (cases hl; done)
  ·split at hl
   case h_2 => cases hl
   rename_i h1 h2
   injection hl with hl; subst hl
   exact op_mkfn hs he hd ho h1 h2 hK
  ·split at hl
   case h_2 => cases hl
   rename_i h1 h2
   injection hl with hl; subst hl
   exact op_mkmv hs he hd ho h1 h2 hK
  ·split at hl
   case h_2 => cases hl
   rename_i h1 h2
   injection hl with hl; subst hl
   exact op_mkme hs he hd ho h1 h2 hK
 case makeSlice t y z =>
  split at hl
  case h_2 => cases hl
  rename_i h1 h2 h3
  split at hl
  case h_2 => cases hl
  rename_i h4
  split at hl
  case h_2 => cases hl
  rename_i h5
  split at hl
  case h_2 => cases hl
  rename_i h6 h7
  injection hl with hl; subst hl
  exact op_makeS hs he hd ho h1 h4 h5 (of_decide_eq_true h6) (of_decide_eq_true h7) h2 h3 hK
 case slice t y lo up mx =>
  cases mx <;> simp only [] at hl <;> try (cases hl; done)
  split at hl
  case h_3 => cases hl
  ·rename_i h1 h2 h3 h4
   split at hl
   case h_2 => cases hl
   rename_i h5
   injection hl with hl; subst hl
   exact op_slc hs he hd ho h1 h5 h2 h3 h4 hK
  ·rename_i h1 h2 h3 h4
   injection hl with hl; subst hl
   exact op_slcS hs he hd ho h1 h2 h3 h4 hK
 case fieldAddr t y f =>
  split at hl
  case h_2 => cases hl
  rename_i h1 h2
  split at hl
  case h_2 => cases hl
  rename_i h3
  split at hl
  case h_2 => cases hl
  rename_i h4
  split at hl
  case h_1 => cases hl
  rename_i h5
  injection hl with hl; subst hl
  exact op_fieldA hs he hd ho h1 h3 h4 (of_decide_eq_false h5) h2 hK
 case field t y f =>
  split at hl
  case h_2 => cases hl
  rename_i h1 h2
  split at hl
  case h_2 => cases hl
  rename_i h3
  split at hl
  case h_2 => cases hl
  rename_i d i h4 h5
  refine op_fieldV (n:=match isAggD d with | true => i.size | false => 1) hs he hd ho h1 h3 h4 h5 h2 rfl ?_
  cases hdd:isAggD d <;> simp only [hdd] at hl ⊢ <;> injection hl with hl <;> subst hl <;> exact hK
 case indexAddr t y z =>
  split at hl
  case h_2 => cases hl
  rename_i h1 h2 h3
  split at hl
  case h_2 => cases hl
  rename_i h4
  injection hl with hl; subst hl
  exact op_idxA hs he hd ho h1 h4 h2 h3 hK
 case index t y z =>
  split at hl
  case h_2 => cases hl
  rename_i h1 h2 h3
  injection hl with hl; subst hl
  exact op_idxS hs he hd ho h1 h2 h3 hK
 case extract y i =>
  split at hl
  case h_2 => cases hl
  rename_i h1
  injection hl with hl; subst hl
  exact op_extr hs he hd ho h1 hK
 case call c =>
  split at hl
  case h_1 => cases hl
  rename_i args hargs
  split at hl
  ·rename_i f hc
   split at hl
   case h_2 => cases hl
   split at hl
   case h_2 => cases hl
   injection hl with hl; subst hl
   exact op_call hs he hd ho hc hargs hK
  ·rename_i y hc
   split at hl
   case h_2 => cases hl
   rename_i h1
   injection hl with hl; subst hl
   exact op_callV hs he hd ho hc h1 hargs hK
  ·rename_i n nm hc
   injection hl with hl; subst hl
   exact op_inv hs he hd ho hc hargs hK
  ·cases hl
  ·rename_i b hc
   have one:∀ {x:X},args = [x] → ∃ y,c.args = #[y] ∧ lowX y = some x:=by
    intro x e
    subst e
    match hl':c.args.toList,hargs with
    | [],h => simp [lowXs] at h
    | [y],h =>
     refine ⟨y,by apply Array.ext'; simpa using hl',?_⟩
     simp only [lowXs] at h
     split at h
     case h_2 => cases h
     rename_i h1 h2
     injection h with h
     injection h with h _
     rw [h1,h]
    | y :: z :: r,h =>
     simp only [lowXs] at h
     split at h
     case h_2 => cases h
     rename_i h1 h2
     injection h with h
     injection h with _ h
     subst h
     split at h2
     ·injection h2 with h2; cases h2
     ·cases h2
   have two:∀ {x x':X},args = [x,x'] → ∃ y y',c.args = #[y,y'] ∧ lowX y = some x ∧ lowX y' = some x':=by
    intro x x' e
    subst e
    match hl':c.args.toList,hargs with
    | [],h => simp [lowXs] at h
    | [y],h =>
     simp only [lowXs] at h
     split at h
     case h_2 => cases h
     rename_i h1 h2
     injection h2 with h2
     injection h with h
     injection h with _ h
     rw [h] at h2
     cases h2
    | [y,y'],h =>
     refine ⟨y,y',by apply Array.ext'; simpa using hl',?_⟩
     simp only [lowXs] at h
     split at h
     case h_2 => cases h
     rename_i h1 h2
     injection h with h
     injection h with h h'
     split at h2
     case h_2 => cases h2
     rename_i h3 h4
     injection h2 with h2
     rw [← h2] at h'
     injection h' with h' _
     exact ⟨by rw [h1,h],by rw [h3,h']⟩
    | y :: z :: u :: r,h =>
     simp only [lowXs] at h
     split at h
     case h_2 => cases h
     rename_i h1 h2
     injection h with h
     injection h with _ h
     subst h
     split at h2
     case h_2 => cases h2
     rename_i h3 h4
     injection h2 with h2
     injection h2 with _ h2
     subst h2
     split at h4
     ·injection h4 with h4; cases h4
     ·cases h4
   have ts1:∀ {t:TypeId},c.argTypes.toList = [t] → c.argTypes = #[t]:=fun e => by apply Array.ext'; simpa using e
   have ts2:∀ {t t':TypeId},c.argTypes.toList = [t,t'] → c.argTypes = #[t,t']:=fun e => by apply Array.ext'; simpa using e
   split at hl
   ·rename_i x t hts
    obtain ⟨y,ha,hy⟩:=one rfl
    split at hl
    ·rename_i h1
     injection hl with hl; subst hl
     exact op_len hs he hd ho hc ha (ts1 hts) h1 hy hK
    ·rename_i h1
     injection hl with hl; subst hl
     exact op_lenS hs he hd ho hc ha (ts1 hts) h1 hy hK
    ·rename_i h1
     injection hl with hl; subst hl
     exact op_mlen hs he hd ho hc ha (ts1 hts) h1 hy hK
    ·cases hl
   ·rename_i x t hts
    obtain ⟨y,ha,hy⟩:=one rfl
    split at hl
    ·rename_i h1
     injection hl with hl; subst hl
     exact op_capa hs he hd ho hc ha (ts1 hts) h1 hy hK
    ·cases hl
   ·injection hl with hl; subst hl
    exact op_mm (mx:=true) hs he hd ho hc hargs hK
   ·injection hl with hl; subst hl
    exact op_mm (mx:=false) hs he hd ho hc hargs hK
   ·rename_i x x' t t' hts
    obtain ⟨y,y',ha,hy,hy'⟩:=two rfl
    split at hl
    ·rename_i h1 h2
     split at hl
     case h_2 => cases hl
     rename_i h3
     split at hl
     case h_2 => cases hl
     rename_i h4
     split at hl
     case h_2 => cases hl
     rename_i h5 h6 h7
     have h5:=of_decide_eq_true h5
     subst h5
     injection hl with hl; subst hl
     exact op_app hs he hd ho hc ha (ts2 hts) h1 h3 h4 (of_decide_eq_true h6) (of_decide_eq_true h7) hy hy' hK
    ·rename_i h1 h2
     split at hl
     case h_2 => cases hl
     rename_i h3
     split at hl
     case h_2 => cases hl
     rename_i h4
     split at hl
     case h_2 => cases hl
     rename_i h5 h6 h7
     have h5:=of_decide_eq_true h5
     subst h5
     injection hl with hl; subst hl
     exact op_appS hs he hd ho hc ha (ts2 hts) h1 h2 h3 h4 (of_decide_eq_true h6) (of_decide_eq_true h7) hy hy' hK
    ·rename_i h1 h2
     split at hl
     case h_2 => cases hl
     rename_i h3
     split at hl
     case h_2 => cases hl
     rename_i h4
     split at hl
     case h_2 => cases hl
     rename_i h5 h6
     have h5:=of_decide_eq_true h5
     subst h5
     injection hl with hl; subst hl
     exact op_appZ hs he hd ho hc ha (ts2 hts) h1 h2 h3 h4 (of_decide_eq_true h6) hy hy' hK
    ·cases hl
   ·rename_i x x' t t' hts
    obtain ⟨y,y',ha,hy,hy'⟩:=two rfl
    split at hl
    ·rename_i h1 h2
     split at hl
     case h_2 => cases hl
     rename_i h3
     split at hl
     case h_2 => cases hl
     rename_i h5 h6
     injection hl with hl; subst hl
     exact op_copy hs he hd ho hc ha (ts2 hts) h1 h3 (of_decide_eq_true h6) hy hy' hK
    ·rename_i h1 h2
     split at hl
     case h_2 => cases hl
     rename_i h3
     split at hl
     case h_2 => cases hl
     rename_i h6
     injection hl with hl; subst hl
     exact op_copy hs he hd ho hc ha (ts2 hts) h1 h3 (of_decide_eq_true h6) hy hy' hK
    ·cases hl
   ·cases hl
end
structure Ann where
 n:Nat
 own:List Nat:=[]
 frz:List (Nat × Nat × List Nat):=[]
 ord:List (Nat × List Nat × List (List Nat)):=[]
 co:List Nat:=[]
 pan:List (Nat × Nat):=[]
 bx:List Nat:=[]
 fl:List Nat:=[]
 px:List Nat:=[]
 bk:List (Nat × Nat):=[]
def panAt:List (Nat × Nat) → Nat → Nat → Bool
 | [],_,_ => false
 | (r,i) :: l,r',i' => match Nat.beq r r' && Nat.beq i i' with | true => true | false => panAt l r' i'
def mkStep (b:Bool) (d:Option Nat) (s:SOp) (g:Option (Nat × Bool)):SStep:=match b with | true => .pc d s g | false => .op d s g
def Ann.owned (A:Ann):Option Nat → Bool
 | some d => mem? A.own d
 | none => false
def Ann.isO (A:Ann):Option Nat → Bool
 | some d => mem? A.co d
 | none => mem? A.co 999999
def Ann.isX (A:Ann):Option Nat → Bool
 | some d => mem? A.px d
 | none => mem? A.px 999999
def frzAt:List (Nat × Nat × List Nat) → Nat → Nat → List Nat
 | [],_,_ => []
 | (r,i,ks) :: l,r',i' => match Nat.beq r r' && Nat.beq i i' with | true => ks | false => frzAt l r' i'
def ordAt:List (Nat × List Nat × List (List Nat)) → Nat → Option (List Nat × List (List Nat))
 | [],_ => none
 | (r,is) :: l,r' => match Nat.beq r r' with | true => some is | false => ordAt l r'
def ordIs (l:List (Nat × List Nat × List (List Nat))) (r:Nat):List Nat:=match ordAt l r with | some (is,_) => is | none => []
def lowGuard (ops:Array Oper):Option (Nat × Bool) → Option (Option (Nat × Bool))
 | none => some none
 | some (j,b) => match (ops[j]?).bind (·.dst) with
  | some d => some (some (d,b))
  | none => none
def dstIn (n:Nat):Option Nat → Bool
 | none => true
 | some d => Nat.blt d n
def lowReg (P:Program) (A:Ann) (r:Nat) (ops:Array Oper):List Nat → Option (List SStep)
 | [] => some []
 | i :: is => match ops[i]? with
  | none => none
  | some o => match lowGuard ops o.guard,lowOp P (A.owned o.dst) o.op,dstIn A.n o.dst,lowReg P A r ops is with
   | some g,some s,true,some rest => some ((frzAt A.frz r i).map .frz ++ mkStep (panAt A.pan r i) o.dst s g :: rest)
   | _,_,_,_ => none
section
variable {P:Program} {F:Frz} {L:Loc} {ρ:Env} {a:Act} {w:World} {K:Kont} {Q:Exit → Act → World → Prop}
def Next2 (n:Nat) (F:Frz) (L:Loc) (w:World) (a:Act) (asg:List Nat) (K:Kont) (a':Act) (w':World):Prop :=
 ∃ F' L' ρ',St F' L' w' ∧ EnvOk L' ρ' a' ∧ a'.tmps.size = n ∧ a'.defers = a.defers ∧ Step F L w F' L' w' ∧ (∀ j,j ∉ asg → a'.tmps.getD j undef = a.tmps.getD j undef) ∧ K F' L' ρ'
theorem frz_sound {k:Nat} {KK:Frz → Loc → Prop} (hs:St F L w) (he:EnvOk L ρ a) (h:FrzPt F L k KK):∃ F' L',St F' L' w ∧ EnvOk L' ρ a ∧ Step F L w F' L' w ∧ KK F' L':=by
 obtain ⟨v,t,sz,n,xs,hk,hK⟩:=h
 have hrow:=hs.own k _ hk
 simp only [Own.ok] at hrow
 have hs1:=hs.part (Loc.part_del L k)
 have he1:EnvOk (L.del k) ρ a:=by
  have hb:∀ j g ty cs,L.get j = some (.box g ty cs) → (L.del k).get j = some (.box g ty cs):=by
   intro j g ty cs e
   rw [Loc.get_del]
   split
   ·rename_i hj; subst hj; rw [hk] at e; cases e
   ·exact e
  refine ⟨fun j => ?_,fun j k' off e => ?_,he.el⟩
  ·rw [he.eq j]
   cases e:ρ j with
   | v x => rfl
   | el x y => rfl
   | own k' off =>
    obtain ⟨g,ty,cs,hg⟩:=he.own j k' off e
    simp only [conc,hg,hb k' g ty cs hg]
  ·obtain ⟨g,ty,cs,hg⟩:=he.own j k' off e
   exact ⟨g,ty,cs,hb k' g ty cs hg⟩
 have hno:∀ g,v.ownBlock = some g → ¬ (L.del k).owns g:=by
  rintro g hg ⟨j,p,e,hb⟩
  rw [Loc.get_del] at e
  split at e
  ·cases e
  ·rename_i hj
   exact hj (hs.sep j k p _ g e hk hb hg)
 obtain ⟨hx,hrow'⟩:=hrow
 rcases hrow' with ⟨rfl,rfl⟩ | ⟨g,cap,cur,rfl,hb0,hg,hnc,hcm,hcs,htake⟩
 ·refine ⟨F,L.del k,hs1,he1,⟨Frz.le_refl F,rfl,rfl,rfl,Nat.le_refl _,fun _ _ _ => rfl,fun b h => .inl h,fun b h => .inl (Loc.owns_del h)⟩,hK F (Frz.le_refl F) (.inl ⟨rfl,rfl,List.eq_nil_of_length_eq_zero (by simpa using hx)⟩)⟩
 ·have hle:=Frz.le_add hs hg
  refine ⟨_,L.del k,hs1.freeze hg (hno g rfl),he1,⟨hle,rfl,rfl,rfl,Nat.le_refl _,fun _ _ _ => rfl,fun b h => ?_,fun b h => .inl (Loc.owns_del h)⟩,hK _ hle (.inr ⟨⟨g,0,none⟩,cap,rfl,⟨_,cur,t,(0,0),rfl,if_pos rfl,rfl,fun i u hu => ?_⟩,hnc⟩)⟩
  ·by_cases hbg:b = g
   ·subst hbg; exact .inr (.inl ⟨k,_,hk,rfl⟩)
   ·simp only [if_neg hbg] at h; exact .inl h
  ·rw [← htake,List.getElem?_take] at hu
   split at hu
   ·simpa using hu
   ·cases hu
theorem frzB_sound {k g:Nat} {t:TypeId} {cs:List Value} (hs:St F L w) (he:EnvOk L ρ a) (hk:L.get k = some (.box g t cs)) :
  ∃ F',F.le F' ∧ F' g = some (boxObj t cs) ∧ St F' (L.del k) w ∧ EnvOk (L.del k) (unown k g ρ) a ∧ Step F L w F' (L.del k) w:=by
 have hg:=hs.own k _ hk
 simp only [Own.ok] at hg
 have hs1:=hs.part (Loc.part_del L k)
 have hle:=Frz.le_add hs hg
 have hno:¬ (L.del k).owns g:=by
  rintro ⟨j,p,e,hb⟩
  rw [Loc.get_del] at e
  split at e
  ·cases e
  ·rename_i hj
   exact hj (hs.sep j k p _ g e hk hb rfl)
 refine ⟨_,hle,if_pos rfl,hs1.freeze hg hno,⟨fun j => ?_,fun j k' off e => ?_,fun j ad i e => ?_⟩,⟨hle,rfl,rfl,rfl,Nat.le_refl _,fun _ _ _ => rfl,fun b h => ?_,fun b h => .inl (Loc.owns_del h)⟩⟩
 ·rw [he.eq j]
  simp only [unown]
  cases e:ρ j with
  | v x => rfl
  | el x y => rfl
  | own k' off =>
   simp only []
   cases hb:Nat.beq k' k with
   | true =>
    have:=Nat.eq_of_beq_eq_true hb
    subst this
    simp only [conc,hk]
   | false =>
    have hne:k' ≠ k:=fun e => by rw [e] at hb; simp at hb
    simp only [conc]
    rw [Loc.get_del,if_neg hne]
 ·simp only [unown] at e
  split at e
  ·rename_i k2 off2 e2
   cases hb:Nat.beq k2 k with
   | true => rw [hb] at e; cases e
   | false =>
    rw [hb] at e
    injection e with e3 e4
    subst e3
    have hne:k2 ≠ k:=fun e => by rw [e] at hb; simp at hb
    rw [Loc.get_del,if_neg hne]
    exact he.own j k2 off2 e2
  ·cases e
  ·cases e
 ·simp only [unown] at e
  split at e
  ·split at e <;> cases e
  ·cases e
  ·rename_i a2 i2 e2
   injection e with h1 h2
   subst h1
   exact he.el j _ _ e2
 ·by_cases hbg:b = g
  ·subst hbg; exact .inr (.inl ⟨k,_,hk,rfl⟩)
  ·simp only [if_neg hbg] at h; exact .inl h
theorem getD_bool {s:Nat} {b:Bool} (h:a.tmps.getD s undef = .bool b):a.tmps[s]? = some (.bool b):=by
 rw [Array.getD_eq_getD_getElem?] at h
 cases e:a.tmps[s]? with
 | none => rw [e] at h; simp [undef] at h
 | some v => rw [e] at h; simp at h; rw [h]
theorem put_same {ρ:Env} {s:Nat} {v:Value} (h:ρ s = .v v):put (some s) (.v v) ρ = ρ:=by
 funext t
 rw [put_eq]
 simp only []
 split
 ·rename_i h1; subst h1; exact h.symm
 ·rfl
def dstsOf (ops:Array Oper):List Nat → List Nat
 | [] => []
 | i :: is => match (ops[i]?).bind (·.dst) with | some d => d :: dstsOf ops is | none => dstsOf ops is
theorem put_frame {d:Option Nat} {v:Value} {j:Nat} (h:d ≠ some j):(a.put d v).tmps.getD j undef = a.tmps.getD j undef:=by
 cases d with
 | none => rfl
 | some k =>
  simp only [Act.put,Array.getD_eq_getD_getElem?,Array.getElem?_setIfInBounds]
  rw [if_neg (by intro e; exact h (by rw [e]))]
theorem wp_frame {o:Oper} {asg:List Nat} {KK:Act → World → Prop} (hr:o.wp P a w KK Q) :
  o.wp P a w (fun a' w' => KK a' w' ∧ ∀ j,o.dst ≠ some j → a'.tmps.getD j undef = a.tmps.getD j undef) Q:=by
 unfold Oper.wp at hr ⊢
 generalize (execOp a.eval o).run P w = r at hr ⊢
 cases r with
 | ok nx w' =>
  cases nx <;> simp only [Oper.upon] at hr ⊢ <;> first
   | exact ⟨hr,fun j h => put_frame h⟩
   | exact Calls.mono hr (fun e w'' he => by cases e <;> first | exact ⟨he,fun j h => put_frame h⟩ | exact he)
   | exact Rows.mono hr (fun v w'' he => ⟨he,fun j h => put_frame h⟩)
 | halt x w' => cases x <;> simp only [Oper.upon] at hr ⊢ <;> exact hr
theorem wp_loop_n {c:Code} (I:Nat → Act → World → Prop) (h₀:∃ n,I n a w)
  (round:∀ n a w,I n a w → c.wp P (Exit.then (fun a' w' => ∃ m,m < n ∧ I m a' w') Q) a w):(Code.loop c).wp P Q a w:=by
 intro b k cs
 have key:∀ n a w,I n a w → ∃ e a' w',Q e a' w' ∧ Arrives P (lone (b.at a (.code c :: .inLoop c :: k)) cs w) b k cs e a' w':=by
  intro n
  induction n using Nat.strongRecOn with
  | _ n ih =>
   intro a w hI
   obtain ⟨e,a₁,w₁,hq,harr⟩:=round n a w hI b (.inLoop c :: k) cs
   cases e with
   | normal =>
    obtain ⟨m,hlt,hI₁⟩:=hq
    obtain ⟨e₂,a₂,w₂,hq₂,harr₂⟩:=ih m hlt a₁ w₁ hI₁
    exact ⟨e₂,a₂,w₂,hq₂,.of_steps (Steps.trans harr (.one step_inLoop)) harr₂⟩
   | exit id => exact ⟨_,a₁,w₁,hq,.pass (x:=.inLoop c) rfl (fun _ _ => .inl (by simp)) harr⟩
   | goto l => exact ⟨_,a₁,w₁,hq,.pass (x:=.inLoop c) rfl (fun _ _ => .inl (by simp)) harr⟩
   | ret => exact ⟨_,a₁,w₁,hq,.pass (x:=.inLoop c) rfl (fun _ _ => .inl (by simp)) harr⟩
   | panic ch => exact ⟨_,a₁,w₁,hq,.pass (x:=.inLoop c) rfl (fun _ _ => .inl (by simp)) harr⟩
   | outgrown => exact ⟨_,a₁,w₁,hq,.pass (x:=.inLoop c) rfl (fun _ _ => .inl (by simp)) harr⟩
 obtain ⟨n,hI⟩:=h₀
 obtain ⟨e,a',w',hq,harr⟩:=key n a w hI
 exact ⟨e,a',w',hq,.of_steps (.one step_loop) harr⟩
theorem keeps_get:∀ {L L':Loc},L.keeps L' → ∀ {k g t cs},L.get k = some (.box g t cs) → ∃ cs',L'.get k = some (.box g t cs')
 | [],L',_,k,g,t,cs,e => by cases e
 | (j,.box g' t' cs') :: l,L',h,k,g,t,cs,e => by
  simp only [Loc.keeps] at h
  simp only [Loc.get] at e
  split at e
  ·rename_i hjk
   have:=Nat.eq_of_beq_eq_true hjk
   subst this
   injection e with e
   injection e with e1 e2 e3
   subst e1 e2
   exact h.1
  ·exact keeps_get h.2 e
 | (j,.row ..) :: l,L',h,k,g,t,cs,e => by
  simp only [Loc.keeps] at h
  simp only [Loc.get] at e
  split at e
  ·cases e
  ·exact keeps_get h e
theorem gives_get {L:Loc}:∀ {L':Loc},L.gives L' → ∀ {k o},L'.get k = some o → L.get k = some o ∨ (L.get k = none ∧ ∃ t sz,o = .row (.slice none 0 0) t sz 0 [])
 | [],_,k,o,e => by cases e
 | (j,p) :: l,h,k,o,e => by
  simp only [Loc.gives] at h
  simp only [Loc.get] at e
  split at e
  ·rename_i hjk
   have:=Nat.eq_of_beq_eq_true hjk
   subst this
   injection e with e
   subst e
   exact h.1
  ·exact gives_get h.2 e
theorem St.gives {L':Loc} (hs:St F L w) (h:L.gives L'):St F L' w:=by
 refine ⟨hs.frz,fun k o e => ?_,fun k o g e hb => ?_,fun k k' o o' g e e' hb hb' => ?_,hs.glob⟩
 ·rcases gives_get h e with h1 | ⟨_,t,sz,rfl⟩
  ·exact hs.own k o h1
  ·exact World.ownsRow_nil w 0 t sz
 ·rcases gives_get h e with h1 | ⟨_,t,sz,rfl⟩
  ·exact hs.off k o g h1 hb
  ·cases hb
 ·rcases gives_get h e with h1 | ⟨_,t,sz,rfl⟩ <;> rcases gives_get h e' with h1' | ⟨_,t',sz',rfl⟩
  ·exact hs.sep k k' o o' g h1 h1' hb hb'
  ·cases hb'
  ·cases hb
  ·cases hb
theorem gives_step {L':Loc} (h:L.gives L'):Step F L w F L' w :=
 ⟨Frz.le_refl F,rfl,rfl,rfl,Nat.le_refl _,fun _ _ _ => rfl,fun b h => .inl h,fun b ⟨k,o,e,hb⟩ => by
  rcases gives_get h e with h1 | ⟨_,t,sz,rfl⟩
  ·exact .inl ⟨k,o,h1,hb⟩
  ·cases hb⟩
theorem mem?_eq:∀ {l:List Nat} {k:Nat},mem? l k = true ↔ k ∈ l
 | [],k => by simp [mem?]
 | j :: l,k => by
  simp only [mem?]
  split
  ·rename_i h; have:=Nat.eq_of_beq_eq_true h; subst this; simp
  ·rename_i h
   have:=beq_f h
   rw [mem?_eq]
   simp only [List.mem_cons]
   constructor
   ·exact .inr
   ·rintro (h | h)
    ·exact absurd h.symm this
    ·exact h
theorem puts_get_env:∀ (ls:List Nat) (vs:List Value) (ρ:Env) (j:Nat),(puts ls (vs.map .v) ρ j = ρ j) ∨ ∃ v,puts ls (vs.map .v) ρ j = .v v
 | [],vs,ρ,j => .inl rfl
 | k :: ls,[],ρ,j => .inl rfl
 | k :: ls,v :: vs,ρ,j => by
  simp only [List.map_cons,puts,put_eq]
  split
  ·exact .inr ⟨v,rfl⟩
  ·exact puts_get_env ls vs ρ j
theorem holds_puts {L:Loc}:∀ (ls:List Nat) (vs:List Value) (ρ ρ0:Env) {a:Act},(∀ t,a.tmps.getD t undef = conc L (ρ t)) → holds ls (vs.map .v) ρ → ∀ j,(∃ v,puts ls (vs.map .v) ρ0 j = .v v ∧ a.tmps.getD j undef = v) ∨ puts ls (vs.map .v) ρ0 j = ρ0 j
 | [],vs,ρ,ρ0,a,he,h,j => .inr rfl
 | k :: ls,[],ρ,ρ0,a,he,h,j => .inr rfl
 | k :: ls,v :: vs,ρ,ρ0,a,he,h,j => by
  simp only [List.map_cons,holds] at h
  simp only [List.map_cons,puts,put_eq]
  split
  ·rename_i hj
   subst hj
   exact .inl ⟨v,rfl,by rw [he,h.1]; rfl⟩
  ·exact holds_puts ls vs ρ ρ0 he h.2 j
end
def xsOf:SOp → List X
 | .mov x | .nilck x | .mkmv _ x | .conv _ x | .un _ x | .eqN _ x | .fieldA _ x | .fieldV _ _ _ x | .extr x _ | .len x | .lenS x | .capa x | .loadD _ _ x | .boxD _ x | .b2sD x | .b2sR x | .loadK _ _ _ x | .loadF _ _ x | .loadR _ _ x | .mlen x => [x]
 | .mlook _ _ _ x i => [x,i]
 | .pick c a b => [c,a,b]
 | .bin _ x y | .eqB _ x y | .eqP _ x y | .eqS _ x y | .eqF _ x y | .eqA _ _ x y | .idxA _ x y | .idxS x y => [x,y]
 | .build _ ps => ps.map (·.2.2)
 | .mkfn _ a b => a ++ b
 | .slc _ x lo hi | .slcS x lo hi => x :: (lo.toList ++ hi.toList)
 | .mm _ l | .mkFD _ _ _ l => l
 | .callD _ l => l
 | .callVD f l => f :: l
 | .allocD _ _ => []
 | .appD _ _ _ _ s x => [s,x]
 | .storeD _ a x => [a,x]
 | .storeK _ _ a x => [a,x]
 | _ => []
def simpleD:SOp → Bool
 | .mov _ | .nilck _ | .mkmv _ _ | .conv _ _ | .un _ _ | .fieldA _ _ | .fieldV _ _ _ _ | .extr _ _ | .len _ | .lenS _ | .capa _ | .loadD _ _ _ | .pick _ _ _
 | .bin _ _ _ | .eqB _ _ _ | .eqP _ _ _ | .eqS _ _ _ | .eqF _ _ _ | .eqN _ _ | .eqA _ _ _ _ | .idxA _ _ _ | .idxS _ _ | .build _ _ | .mkfn _ _ _ | .slc _ _ _ _ | .slcS _ _ _ | .mm _ _ | .b2sD _ | .b2sR _ | .loadK _ _ _ _ | .loadF _ _ _ | .gload _ | .loadR _ _ _ | .mlook _ _ _ _ _ | .mlen _ => true
 | _ => false
def rdR?:SOp → Bool
 | .b2sR _ | .loadR _ _ _ | .mlook _ _ _ _ _ | .mlen _ => true
 | _ => false
def callD?:SOp → Bool
 | .callD _ _ | .callVD _ _ => true
 | _ => false
def allocD?:SOp → Bool
 | .mkFD _ _ _ _ | .boxD _ _ | .allocD _ _ | .makeSD _ _ _ _ => true
 | _ => false
def appD?:SOp → Bool
 | .appD _ _ _ _ _ _ => true
 | _ => false
def storeD?:SOp → Bool
 | .storeD _ _ _ => true
 | .storeK _ _ _ _ => true
 | _ => false
def pureD:SOp → Bool
 | .mov _ | .nilck _ | .mkmv _ _ | .conv _ _ | .un _ _ | .fieldA _ _ | .fieldV _ _ _ _ | .extr _ _ | .len _ | .lenS _ | .capa _ | .pick _ _ _
 | .bin _ _ _ | .eqB _ _ _ | .eqP _ _ _ | .eqS _ _ _ | .eqF _ _ _ | .eqN _ _ | .eqA _ _ _ _ | .idxA _ _ _ | .idxS _ _ | .slc _ _ _ _ | .slcS _ _ _ | .mm _ _ => true
 | _ => false
theorem pure_simple {o:SOp} (h:pureD o = true):simpleD o = true:=by cases o <;> first | rfl | cases h
theorem outV_pure {o:SOp} (h:pureD o = true) {F F':Frz} {L L':Loc} {ρ:Env} {V:SV → Prop} (hK:outV o F L ρ V):outV o F' L' ρ V:=by
 cases o <;> first | (cases h; done) | exact hK
def drawn:SOp → Option SOp
 | .load a n x => some (.loadD a n x)
 | .call f l => some (.callD f l)
 | .callV f l => some (.callVD f l)
 | .box t x => some (.boxD t x)
 | .alloc t z => some (.allocD t z)
 | .mkF e n sz l => some (.mkFD e n sz l)
 | .app e sz b z s x => some (.appD e sz b z s x)
 | .store n a x => some (.storeD n a x)
 | .b2s x => some (.b2sD x)
 | .boxD _ _ | .allocD _ _ | .mkFD _ _ _ _ | .callD _ _ | .callVD _ _ | .loadD _ _ _ | .appD _ _ _ _ _ _ | .storeD _ _ _ | .boxF _ _ | .callO _ _ | .callVO _ _ | .appX _ _ _ _ _ _ | .b2sD _ | .b2sR _ | .makeSD _ _ _ _ | .loadK _ _ _ _ | .storeK _ _ _ _ | .copyX _ _ _ _ | .storeX _ _ _ | .look _ _ | .makeS _ _ _ _ _ _ | .loadF _ _ _ | .loadR _ _ _ | .mkmap | .mupd _ _ _ _ | .mrange _ | .mnext _ | .mentry _ => none
 | o => some o
def constI:X → Option Int
 | .c (.int _ n) => some n
 | _ => none
def mkOk (b:Nat) (n m:Int):Bool:=Nat.ble (n.toNat * b) 140737488355328 && Nat.ble n.toNat 9223372036854775807 && (match n,m with | .ofNat a,.ofNat b => Nat.beq a b | _,_ => false)
def drawnK (bx:List Nat):SOp → Option SOp
 | .makeS e sz b zs l c => match constI l,constI c with
  | some n,some m => match mkOk b n m with
   | true => some (.makeSD e sz n.toNat zs)
   | false => none
  | _,_ => none
 | .mkR e 0 sz [] => some (.makeSD e sz 0 (List.replicate sz undef))
 | .load a n (.t i) => match mem? bx i with | true => some (.loadK i a n (.t i)) | false => some (.loadD a n (.t i))
 | .store n (.t i) x => match mem? bx i with | true => some (.storeK i n (.t i) x) | false => some (.storeD n (.t i) x)
 | o => drawn o
def keyAt:List (Nat × Nat) → Nat → Option Nat
 | [],_ => none
 | (i,k) :: l,j => match Nat.beq i j with | true => some k | false => keyAt l j
def drawnL (fl:List Nat) (bk:List (Nat × Nat)) (bx:List Nat):SOp → Option SOp
 | .load a n (.t i) => match mem? fl i with
  | true => some (.loadF a n (.t i))
  | false => match keyAt bk i with
   | some key => match Nat.beq key 999999 with
    | true => some (.loadR a n (.t i))
    | false => some (.loadK key a n (.t i))
   | none => drawnK bx (.load a n (.t i))
 | .b2s (.t i) => match mem? fl i with
  | true => some (.b2sR (.t i))
  | false => drawnK bx (.b2s (.t i))
 | o => drawnK bx o
def drawnO:SOp → Option SOp
 | .call f l => some (.callO f l)
 | .callV f l => some (.callVO f l)
 | .app e sz b z s x => some (.appX e sz b z s x)
 | .copy e sz a b => some (.copyX e sz a b)
 | .store n a x => some (.storeX n a x)
 | .mupd str x i v => some (.mupd str x i v)
 | _ => none
section
variable {P:Program} {F:Frz} {L:Loc} {ρ:Env} {K:Kont}
theorem evalOp_simple {o:SOp} (h:simpleD o = true) (d:Option Nat):evalOp P o d F L ρ K = outV o F L ρ fun v => K F L (put d v ρ):=by
 cases o <;> first | rfl | cases h
structure One (T:(SV → Prop) → Prop):Prop where
 ex:∀ V,T V → ∃ v,T (fun u => u = v) ∧ V v
 mono:∀ V V':SV → Prop,(∀ v,V v → V' v) → T V → T V'
theorem One.ret (v:SV):One fun V => V v:=⟨fun V h => ⟨v,rfl,h⟩,fun V V' h k => h v k⟩
theorem One.no:One fun _ => False:=⟨fun V h => h.elim,fun V V' h k => k⟩
theorem One.and {p:Prop} {T:(SV → Prop) → Prop} (h:One T):One fun V => p ∧ T V :=
 ⟨fun V ⟨hp,ht⟩ => let ⟨v,h1,h2⟩:=h.ex V ht; ⟨v,⟨hp,h1⟩,h2⟩,fun V V' hv ⟨hp,ht⟩ => ⟨hp,h.mono V V' hv ht⟩⟩
theorem One.fit {k:IntKind} {n:Int} {T:Int → (SV → Prop) → Prop} (h:∀ m,One (T m)):One fun V => Fit k n fun m => T m V :=
 ⟨fun V ⟨ht⟩ => let ⟨v,h1,h2⟩:=(h _).ex V ht; ⟨v,⟨h1⟩,h2⟩,fun V V' hv ⟨ht⟩ => ⟨(h _).mono V V' hv ht⟩⟩
theorem One.nz {n:Int} {T:(SV → Prop) → Prop} (h:One T):One fun V => NonZ n (T V) :=
 ⟨fun V ⟨hp,ht⟩ => let ⟨v,h1,h2⟩:=h.ex V ht; ⟨v,⟨hp,h1⟩,h2⟩,fun V V' hv ⟨hp,ht⟩ => ⟨hp,h.mono V V' hv ht⟩⟩
theorem One.inb {i n:Int} {T:(SV → Prop) → Prop} (h:One T):One fun V => InB i n (T V) :=
 ⟨fun V ⟨hp,hq,ht⟩ => let ⟨v,h1,h2⟩:=h.ex V ht; ⟨v,⟨hp,hq,h1⟩,h2⟩,fun V V' hv ⟨hp,hq,ht⟩ => ⟨hp,hq,h.mono V V' hv ht⟩⟩
theorem One.idx {a:Option Addr} {i n:Int} {T:(SV → Prop) → Prop} (h:One T):One fun V => IdxPt a i n (T V) :=
 ⟨fun V ⟨hp,hq,hr,ht⟩ => let ⟨v,h1,h2⟩:=h.ex V ht; ⟨v,⟨hp,hq,hr,h1⟩,h2⟩,fun V V' hv ⟨hp,hq,hr,ht⟩ => ⟨hp,hq,hr,h.mono V V' hv ht⟩⟩
theorem One.slc {l h:Int} {c:Nat} {T:Nat → Nat → (SV → Prop) → Prop} (hT:∀ l h,One (T l h)):One fun V => SlcPt l h c fun l h => T l h V :=
 ⟨fun V ⟨hp,hq,hr,ht⟩ => let ⟨v,h1,h2⟩:=(hT _ _).ex V ht; ⟨v,⟨hp,hq,hr,h1⟩,h2⟩,fun V V' hv ⟨hp,hq,hr,ht⟩ => ⟨hp,hq,hr,(hT _ _).mono V V' hv ht⟩⟩
theorem One.loadD {a:Option Addr} {j n:Nat} {T:List Value → (SV → Prop) → Prop} (h:∀ cs,One (T cs)):One fun V => LoadDPt F a j n fun cs => T cs V :=
 ⟨fun V ⟨cs,hp,hq,ht⟩ => let ⟨v,h1,h2⟩:=(h _).ex V ht; ⟨v,⟨cs,hp,hq,h1⟩,h2⟩,fun V V' hv ⟨cs,hp,hq,ht⟩ => ⟨cs,hp,hq,(h _).mono V V' hv ht⟩⟩
theorem One.loadP {a:Option Addr} {j n:Nat} {T:List Value → (SV → Prop) → Prop} (h:∀ cs,One (T cs)):One fun V => LoadPt F L a j n fun cs => T cs V :=
 ⟨fun V ⟨cs,hp,hq,ht⟩ => let ⟨v,h1,h2⟩:=(h _).ex V ht; ⟨v,⟨cs,hp,hq,h1⟩,h2⟩,fun V V' hv ⟨cs,hp,hq,ht⟩ => ⟨cs,hp,hq,(h _).mono V V' hv ht⟩⟩
theorem One.mapP {g:Nat} {T:Nat → List Value → (SV → Prop) → Prop} (h:∀ k cs,One (T k cs)):One fun V => MapPt L g fun k cs => T k cs V :=
 ⟨fun V ⟨k,cs,hp,hq,ht⟩ => let ⟨v,h1,h2⟩:=(h _ _).ex V ht; ⟨v,⟨k,cs,hp,hq,h1⟩,h2⟩,fun V V' hv ⟨k,cs,hp,hq,ht⟩ => ⟨k,cs,hp,hq,(h _ _).mono V V' hv ht⟩⟩
theorem One.mlk {str:Bool} {cs:List Value} {key:Value} {ok:Bool} {z:Value}:One fun V => MLookPt str cs key ok z fun v => V (.v v) :=
 ⟨fun V h => by
  rcases h.out with ⟨i,v,h1,h2⟩ | ⟨h1,h2⟩
  ·exact ⟨_,⟨.inl ⟨i,v,h1,rfl⟩⟩,h2⟩
  ·exact ⟨_,⟨.inr ⟨h1,rfl⟩⟩,h2⟩,fun V V' hv h => ⟨h.out.imp (fun ⟨i,v,h1,h2⟩ => ⟨i,v,h1,hv _ h2⟩) fun ⟨h1,h2⟩ => ⟨h1,hv _ h2⟩⟩⟩
theorem One.gl {g:Nat} {T:Value → (SV → Prop) → Prop} (h:∀ v,One (T v)):One fun V => GlPt F g fun v => T v V :=
 ⟨fun V ⟨u,t,fr,hp,ht⟩ => let ⟨v,h1,h2⟩:=(h _).ex V ht; ⟨v,⟨u,t,fr,hp,h1⟩,h2⟩,fun V V' hv ⟨u,t,fr,hp,ht⟩ => ⟨u,t,fr,hp,(h _).mono V V' hv ht⟩⟩
theorem One.bytes {cs:List Value} {T:List UInt8 → (SV → Prop) → Prop} (h:∀ bs,One (T bs)):One fun V => BytesPt cs fun bs => T bs V :=
 ⟨fun V ⟨bs,hp,ht⟩ => let ⟨v,h1,h2⟩:=(h _).ex V ht; ⟨v,⟨bs,hp,h1⟩,h2⟩,fun V V' hv ⟨bs,hp,ht⟩ => ⟨bs,hp,(h _).mono V V' hv ht⟩⟩
theorem One.binI {op:BinOp} {k:IntKind} {a b:Int}:One fun V => binI op k a b fun v => V (.v v):=by
 cases op <;> simp only [Fr.binI] <;> first
  | exact One.no
  | exact One.ret _
  | exact One.fit fun _ => One.ret _
  | exact One.nz (One.fit fun _ => One.ret _)
  | exact One.nz (One.ret _)
theorem One.shI {op:BinOp} {k:IntKind} {a b:Int}:One fun V => shI op k a b fun v => V (.v v):=by
 cases op <;> simp only [Fr.shI] <;> first
  | exact One.no
  | exact One.and (One.fit fun _ => One.ret _)
  | exact One.and (One.ret _)
theorem One.binS {op:BinOp} {a b:ByteArray}:One fun V => binS op a b fun v => V (.v v):=by
 cases op <;> simp only [Fr.binS] <;> first
  | exact One.no
  | exact One.ret _
  | exact One.and (One.ret _)
theorem outV_one {o:SOp} (h:simpleD o = true):One (outV o F L ρ):=by
 cases o <;> first | (cases h; done) | skip
 case b2sR x =>
  show One fun V => outV _ F L ρ V
  simp only [outV]
  cases e:ev ρ x with
  | own k off => exact One.no
  | el a j => exact One.no
  | v x =>
   cases x <;> try exact One.no
   exact ⟨fun V ⟨k,t,c,bs,h1,h2,h3,h4⟩ => ⟨_,⟨k,t,c,bs,h1,h2,h3,rfl⟩,h4⟩,fun V V' hv ⟨k,t,c,bs,h1,h2,h3,h4⟩ => ⟨k,t,c,bs,h1,h2,h3,hv _ h4⟩⟩
 case mov x => exact One.ret _
 case pick c a b =>
  show One fun V => outV _ F L ρ V
  simp only [outV]
  cases e:ev ρ c with
  | v x => cases x <;> try exact One.no
           rename_i b; cases b <;> exact One.ret _
  | own k off => exact One.no
  | el a j => exact One.no
 case build zs ps =>
  show One fun V => outV _ F L ρ V
  simp only [outV]
  cases e:built L ρ zs ps with
  | none => exact One.no
  | some cs => exact One.ret _
 case loadD ag n x =>
  show One fun V => outV _ F L ρ V
  simp only [outV]
  cases e:ev ρ x with
  | own k off =>
   simp only []
   cases e2:L.get k with
   | none => exact One.no
   | some p =>
    cases p with
    | row => exact One.no
    | box g t cs =>
     simp only []
     cases e3:memB t ((cs.drop off).take n) n
     ·exact One.no
     ·exact One.ret _
  | el a j => exact One.loadD fun _ => One.ret _
  | v x =>
   cases x <;> try exact One.no
   rename_i a; cases a
   ·exact One.no
   ·exact One.loadD fun _ => One.ret _
 case gload g =>
  show One fun V => outV _ F L ρ V
  simp only [outV]
  exact One.gl fun _ => One.ret _
 case loadR ag n x =>
  show One fun V => outV _ F L ρ V
  simp only [outV]
  cases e:ev ρ x with
  | own k off =>
   simp only []
   cases e2:L.get k with
   | none => exact One.no
   | some p =>
    cases p with
    | row => exact One.no
    | box g t cs =>
     simp only []
     cases e3:memB t ((cs.drop off).take n) n
     ·exact One.no
     ·exact One.ret _
  | el a j => exact One.loadP fun _ => One.ret _
  | v x =>
   cases x <;> try exact One.no
   rename_i a; cases a
   ·exact One.no
   ·exact One.loadP fun _ => One.ret _
 case mlook str ok z0 x i =>
  show One fun V => outV _ F L ρ V
  simp only [outV]
  cases e:ev ρ x with
  | own k off => exact One.no
  | el a j => exact One.no
  | v x =>
   cases x <;> try exact One.no
   rename_i a; cases a
   ·exact One.no
   ·exact One.mapP fun k cs => One.mlk
 case mlen x =>
  show One fun V => outV _ F L ρ V
  simp only [outV]
  cases e:ev ρ x with
  | own k off => exact One.no
  | el a j => exact One.no
  | v x =>
   cases x <;> try exact One.no
   rename_i a; cases a
   ·exact One.no
   ·exact One.mapP fun k cs => One.ret _
 case loadF ag n x =>
  show One fun V => outV _ F L ρ V
  simp only [outV]
  cases e:ev ρ x with
  | own k off => exact One.no
  | el a j => exact One.loadD fun _ => One.ret _
  | v x =>
   cases x <;> try exact One.no
   rename_i a; cases a
   ·exact One.no
   ·exact One.loadD fun _ => One.ret _
 case loadK key ag n x =>
  show One fun V => outV _ F L ρ V
  simp only [outV]
  cases e:ev ρ x with
  | own k off =>
   simp only []
   cases e1:Nat.beq k key with
   | false => exact One.no
   | true =>
    simp only []
    cases e2:L.get k with
    | none => exact One.no
    | some p =>
     cases p with
     | row => exact One.no
     | box g t cs =>
      simp only []
      cases e3:memB t ((cs.drop off).take n) n
      ·exact One.no
      ·exact One.ret _
  | el a j => exact One.no
  | v x => exact One.no
 case b2sD x =>
  show One fun V => outV _ F L ρ V
  simp only [outV]
  cases e:ev ρ x with
  | own k off => exact One.no
  | el a j => exact One.no
  | v x =>
   cases x <;> try exact One.no
   exact One.loadD fun _ => One.bytes fun _ => One.ret _
 case nilck x =>
  show One fun V => outV _ F L ρ V
  simp only [outV]
  cases e:ev ρ x with
  | own k off => exact One.ret _
  | el a j => exact One.and (One.ret _)
  | v x =>
   cases x <;> try exact One.no
   ·rename_i a; cases a
    ·exact One.no
    ·exact One.ret _
   ·rename_i f a b
    cases f <;> first
     | exact One.no
     | exact One.ret _
     | (simp only []
        split
        ·exact One.and (One.ret _)
        ·exact One.no)
 case mkmv nm x =>
  show One fun V => outV _ F L ρ V
  simp only [outV]
  cases e:ev ρ x with
  | own k off => exact One.no
  | el a j => exact One.no
  | v x => exact One.ret _
 case bin op x y =>
  show One fun V => outV _ F L ρ V
  simp only [outV]
  cases e:ev ρ x with
  | own k off => exact One.no
  | el a j => exact One.no
  | v u =>
   cases e2:ev ρ y with
   | own k off => cases u <;> exact One.no
   | el a j => cases u <;> exact One.no
   | v u' =>
    cases u <;> cases u' <;> try exact One.no
    ·simp only []
     cases isSh op
     ·simp only []
      rename_i k n k' n'
      cases kindEq k k'
      ·exact One.no
      ·exact One.binI
     ·exact One.shI
    ·exact One.binS
 case eqB ng x y =>
  show One fun V => outV _ F L ρ V
  simp only [outV]
  cases e:ev ρ x with
  | own k off => exact One.no
  | el a j => exact One.no
  | v u =>
   cases e2:ev ρ y with
   | own k off => cases u <;> exact One.no
   | el a j => cases u <;> exact One.no
   | v u' => cases u <;> cases u' <;> first | exact One.no | exact One.ret _
 case eqP ng x y =>
  show One fun V => outV _ F L ρ V
  simp only [outV]
  cases e:ev ρ x with
  | own k off =>
   cases e2:ev ρ y with
   | own k off => exact One.no
   | el a j => exact One.no
   | v u' =>
    cases u' <;> try exact One.no
    rename_i p; cases p <;> first | exact One.no | exact One.ret _
  | el a j =>
   cases e2:ev ρ y with
   | own k off => cases a <;> exact One.no
   | el b i => cases a <;> exact One.no
   | v u' =>
    cases a <;> cases u' <;> try exact One.no
    rename_i p; cases p <;> first | exact One.no | exact One.ret _
  | v u =>
   cases e2:ev ρ y with
   | own k off => cases u <;> exact One.no
   | el a j => cases u <;> exact One.no
   | v u' =>
    cases u <;> cases u' <;> try exact One.no
    rename_i p q; cases q <;> first | exact One.no | exact One.ret _
 case eqS ng x y =>
  show One fun V => outV _ F L ρ V
  simp only [outV]
  cases e:ev ρ x with
  | own k off => exact One.no
  | el a j => exact One.no
  | v u =>
   cases e2:ev ρ y with
   | own k off => cases u <;> exact One.no
   | el a j => cases u <;> exact One.no
   | v u' =>
    cases u <;> cases u' <;> try exact One.no
    rename_i a1 l1 c1 a2 l2 c2; cases a2 <;> first | exact One.no | exact One.ret _
 case eqF ng x y =>
  show One fun V => outV _ F L ρ V
  simp only [outV]
  cases e:ev ρ x with
  | own k off => exact One.no
  | el a j => exact One.no
  | v u =>
   cases e2:ev ρ y with
   | own k off => cases u <;> exact One.no
   | el a j => cases u <;> exact One.no
   | v u' => cases u <;> cases u' <;> first | exact One.no | exact One.ret _
 case eqN ng x =>
  show One fun V => outV _ F L ρ V
  simp only [outV]
  cases e:ev ρ x with
  | own k off => exact One.no
  | el a j => exact One.no
  | v u => cases u <;> first | exact One.no | exact One.ret _
 case eqA ng ks x y =>
  show One fun V => outV _ F L ρ V
  simp only [outV]
  cases e:ev ρ x with
  | own k off => exact One.no
  | el a j => exact One.no
  | v u =>
   cases e2:ev ρ y with
   | own k off => cases u <;> exact One.no
   | el a j => cases u <;> exact One.no
   | v u' =>
    cases u <;> cases u' <;> try exact One.no
    rename_i cs ds
    simp only []
    cases eqVs ks cs.toList ds.toList true <;> first | exact One.no | exact One.ret _
 case un op x =>
  show One fun V => outV _ F L ρ V
  simp only [outV]
  cases op <;> cases e:ev ρ x <;> first
   | exact One.no
   | (rename_i u; cases u <;> first | exact One.no | exact One.ret _ | exact One.fit fun _ => One.ret _)
 case conv k x =>
  show One fun V => outV _ F L ρ V
  simp only [outV]
  cases e:ev ρ x <;> first
   | exact One.no
   | (rename_i u; cases u <;> first | exact One.no | exact One.fit fun _ => One.ret _)
 case mkfn f a b => exact One.ret _
 case slc sz x lo hi =>
  show One fun V => outV _ F L ρ V
  simp only [outV]
  cases e:ev ρ x <;> try exact One.no
  rename_i u; cases u <;> try exact One.no
  rename_i a n c
  simp only []
  cases optI ρ 0 lo <;> cases optI ρ n hi <;> first | exact One.no | exact One.slc fun _ _ => One.ret _
 case slcS x lo hi =>
  show One fun V => outV _ F L ρ V
  simp only [outV]
  cases e:ev ρ x <;> try exact One.no
  rename_i u; cases u <;> try exact One.no
  rename_i s
  simp only []
  cases optI ρ 0 lo <;> cases optI ρ s.size hi <;> first | exact One.no | exact One.slc fun _ _ => One.ret _
 case fieldA off x =>
  show One fun V => outV _ F L ρ V
  simp only [outV]
  cases e:ev ρ x with
  | own k off => exact One.ret _
  | el a j => exact One.ret _
  | v u =>
   cases u <;> try exact One.no
   rename_i p; cases p <;> first | exact One.no | exact One.ret _
 case fieldV ag off n x =>
  show One fun V => outV _ F L ρ V
  simp only [outV]
  cases e:ev ρ x <;> try exact One.no
  rename_i u; cases u <;> try exact One.no
  rename_i cs
  simp only []
  cases len? ((cs.toList.drop off).take n) n <;> first | exact One.no | exact One.ret _
 case idxA sz x i =>
  show One fun V => outV _ F L ρ V
  simp only [outV]
  cases e:ev ρ x with
  | own k off => exact One.no
  | el a j => exact One.no
  | v u =>
   cases e2:ev ρ i with
   | own k off => cases u <;> exact One.no
   | el a j => cases u <;> exact One.no
   | v u' => cases u <;> cases u' <;> first | exact One.no | exact One.idx (One.ret _)
 case idxS x i =>
  show One fun V => outV _ F L ρ V
  simp only [outV]
  cases e:ev ρ x with
  | own k off => exact One.no
  | el a j => exact One.no
  | v u =>
   cases e2:ev ρ i with
   | own k off => cases u <;> exact One.no
   | el a j => cases u <;> exact One.no
   | v u' => cases u <;> cases u' <;> first | exact One.no | exact One.inb (One.ret _)
 case extr x i =>
  show One fun V => outV _ F L ρ V
  simp only [outV]
  cases e:ev ρ x <;> try exact One.no
  rename_i u; cases u <;> try exact One.no
  rename_i vs
  simp only []
  cases vs.toList[i]? <;> first | exact One.no | exact One.ret _
 case len x =>
  show One fun V => outV _ F L ρ V
  simp only [outV]
  cases e:ev ρ x <;> try exact One.no
  rename_i u; cases u <;> first | exact One.no | exact One.ret _
 case lenS x =>
  show One fun V => outV _ F L ρ V
  simp only [outV]
  cases e:ev ρ x <;> try exact One.no
  rename_i u; cases u <;> first | exact One.no | exact One.ret _
 case capa x =>
  show One fun V => outV _ F L ρ V
  simp only [outV]
  cases e:ev ρ x <;> try exact One.no
  rename_i u; cases u <;> first | exact One.no | exact One.ret _
 case mm mx l =>
  show One fun V => outV _ F L ρ V
  simp only [outV]
  cases e:l.map (ev ρ) with
  | nil => exact One.no
  | cons u r =>
   cases u <;> try exact One.no
   rename_i u; cases u <;> try exact One.no
   rename_i k a0
   simp only []
   cases mmI mx a0 r <;> first | exact One.no | exact One.ret _
end
theorem undraw {P:Program} {s s':SOp} {d:Option Nat} {F:Frz} {L:Loc} {ρ:Env} {K:Kont} (h:drawn s = some s') (hok:(simpleD s' || callD? s' || allocD? s' || appD? s' || storeD? s') = true) (hnc:callD? s' = false) (hK:evalOp P s' d F L ρ K):evalOp P s d F L ρ (fun F' L' ρ' => Real F' L' → K F' L' ρ'):=by
 have load:∀ {a:Option Addr} {j n:Nat} {KK KK':List Value → Prop},LoadDPt F a j n KK → (∀ cs,KK cs → KK' cs) → LoadPt F L a j n KK':=by
  rintro a j n KK KK' ⟨cs,h1,h2,h3⟩ h4
  exact ⟨cs,h1,by rcases h2 with h2 | h2; exact .inl h2; exact .inr (.inr (.inl h2)),h4 _ h3⟩
 have app:∀ {e sz b:Nat} {sv xv:Value} {KK KK':Loc → Value → Prop},AppDPt F L d e sz b sv xv KK → (∀ L' v,(Real F L' → KK L' v) → KK' L' v) → AppPt F L e sz b sv xv KK':=by
  rintro e sz b sv xv KK KK' ⟨kd,n,xs,m,news,h1,⟨ad,c,h2,h3,h4⟩,h5,h6,h7,h8⟩ hk
  refine ⟨kd,n,xs,m,news,?_,⟨ad,c,h2,h3,?_⟩,h5,h6,h7,fun v hv => hk _ _ (h8 v hv)⟩
  ·rcases h1 with h1 | ⟨_,h1⟩ | ⟨_,h1⟩
   ·exact .inl h1
   ·exact .inr (.inl h1)
   ·exact .inr (.inr h1)
  ·rcases h4 with h4 | h4
   ·exact .inl h4
   ·exact .inr (.inl h4)
 by_cases hs:simpleD s' = true
 ·have hsim:=hs
  have h1:∀ V V':SV → Prop,(∀ v,V v → V' v) → outV s' F L ρ V → outV s F L ρ V':=by
   intro V V' hV hT
   have hT:=(outV_one hsim).mono V V' hV hT
   cases s <;> simp only [drawn,Option.some.injEq,reduceCtorEq] at h <;> subst h <;> first
    | exact hT
    | (simp only [outV] at hT ⊢
       split at hT
       ·exact hT
       ·exact load hT fun _ h => h
       ·exact load hT fun _ h => h
       ·exact hT)
    | (simp only [outV] at hT ⊢
       split at hT
       ·exact load hT fun _ h => h
       ·exact hT)
    | (exfalso; revert hs; simp [simpleD]; done)
  rw [evalOp_simple hsim] at hK
  have h2:=h1 _ (fun v => Real F L → K F L (put d v ρ)) (fun v hv _ => hv) hK
  cases s <;> simp only [drawn,Option.some.injEq,reduceCtorEq] at h <;> subst h <;> first
   | exact h2
   | (exfalso; revert hs; simp [simpleD]; done)
 ·by_cases hst:storeD? s' = true
  ·cases s <;> simp only [drawn,Option.some.injEq,reduceCtorEq] at h <;> subst h <;> first | (cases hst; done) | skip
   rename_i n a x
   have hK':(match len? (vcells (val L ρ x)) n,ones? (vcells (val L ρ x)),ev ρ a with
    | true,true,.own k off => match L.get k with
     | some (.box g t cs) => match memB t ((cs.drop off).take n) n with
      | true => K F (L.set k (.box g t (splice cs off (vcells (val L ρ x))))) (put d (.v undef) ρ)
      | false => False
     | _ => False
    | _,_,_ => False):=hK
   clear hK
   split at hK'
   case h_2 => exact hK'.elim
   rename_i e1 e2 e3
   split at hK'
   case h_2 => exact hK'.elim
   rename_i e4
   split at hK'
   case h_2 => exact hK'.elim
   rename_i e5
   simp only [evalOp,e1,e2,e3,e4,e5]
   exact fun _ => hK'
  cases s <;> simp only [drawn,Option.some.injEq,reduceCtorEq] at h <;> subst h <;> first
   | (exfalso; revert hs hok hst; simp [simpleD,callD?,allocD?,appD?,storeD?]; done)
   | (cases hnc; done)
   | (simp only [evalOp] at hK ⊢
      split at hK
      ·exact app hK fun _ _ h => h
      ·exact hK)
   | (simp only [evalOp] at hK ⊢
      split at hK
      ·split at hK
       ·exact hK
       ·exact hK
      ·exact hK)
   | (simp only [evalOp] at hK ⊢
      split at hK
      ·exact fun g F' hle hg hr => hK g F' hle hg hr
      ·exact hK)
section
variable {P:Program} {F:Frz} {L:Loc} {ρ:Env} {K:Kont}
def Alike (o:SOp) (L L':Loc) (ρ ρ':Env):Prop:=∀ x ∈ xsOf o,ev ρ' x = ev ρ x ∧ ∀ k off,ev ρ x = .own k off → L'.get k = L.get k
theorem Alike.val {o:SOp} {L L':Loc} {ρ ρ':Env} (h:Alike o L L' ρ ρ') {x:X} (hx:x ∈ xsOf o):Fr.val L' ρ' x = Fr.val L ρ x:=by
 obtain ⟨h1,h2⟩:=h x hx
 simp only [Fr.val,h1]
 cases e:ev ρ x with
 | v u => rfl
 | el a j => rfl
 | own k off => simp only [conc,h2 k off e]
theorem evals_alike {L L':Loc} {ρ ρ':Env}:∀ {xs:List X},(∀ x ∈ xs,Fr.val L' ρ' x = Fr.val L ρ x) → evals L' ρ' xs = evals L ρ xs
 | [],_ => rfl
 | x :: xs,h => by simp only [evals,h x (by simp),evals_alike (xs:=xs) (fun y hy => h y (List.mem_cons_of_mem _ hy))]
theorem cellsOf_alike {L L':Loc} {ρ ρ':Env}:∀ {xs:List X},(∀ x ∈ xs,Fr.val L' ρ' x = Fr.val L ρ x) → cellsOf L' ρ' xs = cellsOf L ρ xs
 | [],_ => rfl
 | x :: xs,h => by simp only [cellsOf,h x (by simp),cellsOf_alike (xs:=xs) (fun y hy => h y (List.mem_cons_of_mem _ hy))]
theorem parts_alike {L L':Loc} {ρ ρ':Env} {sz:Nat}:∀ {xs:List X},(∀ x ∈ xs,Fr.val L' ρ' x = Fr.val L ρ x) → parts? L' ρ' sz xs = parts? L ρ sz xs
 | [],_ => rfl
 | x :: xs,h => by simp only [parts?,h x (by simp),parts_alike (xs:=xs) (fun y hy => h y (List.mem_cons_of_mem _ hy))]
theorem built_alike {L L':Loc} {ρ ρ':Env}:∀ {ps:List (Nat × Nat × X)} {zs:List Value},(∀ p ∈ ps,Fr.val L' ρ' p.2.2 = Fr.val L ρ p.2.2) → built L' ρ' zs ps = built L ρ zs ps
 | [],zs,_ => rfl
 | (off,n,x) :: ps,zs,h => by
  have h1:=h (off,n,x) (by simp)
  simp only at h1
  simp only [built,h1]
  split
  ·exact built_alike (fun p hp => h p (by simp [hp]))
  ·rfl
theorem LoadDPt.up {F F':Frz} (hF:F.le F') {a:Option Addr} {j n:Nat} {K:List Value → Prop} (h:LoadDPt F a j n K):LoadDPt F' a j n K:=by
 obtain ⟨cs,h1,h2,h3⟩:=h
 exact ⟨cs,h1,by rcases h2 with h2 | h2; exact .inl (h2.mono hF); exact .inr h2,h3⟩
theorem LoadPt.upF {F F':Frz} (hF:F.le F') {L:Loc} {a:Option Addr} {j n:Nat} {K:List Value → Prop} (h:LoadPt F L a j n K):LoadPt F' L a j n K:=by
 obtain ⟨cs,h1,h2,h3⟩:=h
 exact ⟨cs,h1,by rcases h2 with h2 | h2; exact .inl (h2.mono hF); exact .inr h2,h3⟩
theorem optI_alike {ρ ρ':Env} {d:Int} {x:Option X} (h:∀ y ∈ x.toList,ev ρ' y = ev ρ y):optI ρ' d x = optI ρ d x:=by
 cases x with
 | none => rfl
 | some y => simp only [optI,h y (by simp)]
theorem outV_up {o:SOp} (hsim:simpleD o = true) {F F':Frz} {L L':Loc} {ρ ρ':Env} (hF:F.le F') (H:Alike o L L' ρ ρ') {V:SV → Prop} (h:outV o F L ρ V) (hR:rdR? o = false ∨ L' = L:=by exact .inr rfl):outV o F' L' ρ' V:=by
 cases o <;> first | (cases hsim; done) | skip
 case build zs ps =>
  have e:=built_alike (ps:=ps) (zs:=zs) (L:=L) (L':=L') (ρ:=ρ) (ρ':=ρ') (fun p hp => H.val (List.mem_map.2 ⟨p,hp,rfl⟩))
  simp only [outV,e] at h ⊢
  exact h
 case mkfn f a b =>
  have e1:=evals_alike (xs:=a) (L:=L) (L':=L') (ρ:=ρ) (ρ':=ρ') (fun x hx => H.val (List.mem_append.2 (.inl hx)))
  have e2:=evals_alike (xs:=b) (L:=L) (L':=L') (ρ:=ρ) (ρ':=ρ') (fun x hx => H.val (List.mem_append.2 (.inr hx)))
  simp only [outV,e1,e2] at h ⊢
  exact h
 case mm mx l =>
  have e:l.map (ev ρ') = l.map (ev ρ):=List.map_congr_left fun x hx => (H x hx).1
  simp only [outV,e] at h ⊢
  exact h
 case slc sz x lo hi =>
  have e:=(H x (by simp [xsOf])).1
  have e1:∀ d,optI ρ' d lo = optI ρ d lo:=fun d => optI_alike fun y hy => (H y (by simp only [xsOf]; exact List.mem_cons_of_mem _ (List.mem_append.2 (.inl hy)))).1
  have e2:∀ d,optI ρ' d hi = optI ρ d hi:=fun d => optI_alike fun y hy => (H y (by simp only [xsOf]; exact List.mem_cons_of_mem _ (List.mem_append.2 (.inr hy)))).1
  simp only [outV,e,e1,e2] at h ⊢
  exact h
 case slcS x lo hi =>
  have e:=(H x (by simp [xsOf])).1
  have e1:∀ d,optI ρ' d lo = optI ρ d lo:=fun d => optI_alike fun y hy => (H y (by simp only [xsOf]; exact List.mem_cons_of_mem _ (List.mem_append.2 (.inl hy)))).1
  have e2:∀ d,optI ρ' d hi = optI ρ d hi:=fun d => optI_alike fun y hy => (H y (by simp only [xsOf]; exact List.mem_cons_of_mem _ (List.mem_append.2 (.inr hy)))).1
  simp only [outV,e,e1,e2] at h ⊢
  exact h
 case loadD ag n x =>
  obtain ⟨e,e1⟩:=H x (by simp [xsOf])
  simp only [outV,e] at h ⊢
  split at h
  ·rename_i k off hx
   simp only [e1 k off hx]
   exact h
  ·exact h.up hF
  ·exact h.up hF
  ·exact h
 case gload g =>
  simp only [outV] at h ⊢
  obtain ⟨u,t,fr,h1,h2⟩:=h
  exact ⟨u,t,fr,hF _ _ h1,h2⟩
 case loadR ag n x =>
  obtain ⟨e,e1⟩:=H x (by simp [xsOf])
  rcases hR with hR | rfl
  ·cases hR
  ·simp only [outV,e] at h ⊢
   split at h
   ·exact h
   ·exact h.upF hF
   ·exact h.upF hF
   ·exact h
 case mlook str ok z0 x i =>
  obtain ⟨e,e1⟩:=H x (by simp [xsOf])
  have e2:val L' ρ' i = val L ρ i:=H.val (by simp [xsOf])
  rcases hR with hR | rfl
  ·cases hR
  ·simp only [outV,e,e2] at h ⊢
   exact h
 case mlen x =>
  obtain ⟨e,e1⟩:=H x (by simp [xsOf])
  rcases hR with hR | rfl
  ·cases hR
  ·simp only [outV,e] at h ⊢
   exact h
 case loadF ag n x =>
  obtain ⟨e,e1⟩:=H x (by simp [xsOf])
  simp only [outV,e] at h ⊢
  split at h
  ·exact h.up hF
  ·exact h.up hF
  ·exact h
 case loadK key ag n x =>
  obtain ⟨e,e1⟩:=H x (by simp [xsOf])
  simp only [outV,e] at h ⊢
  split at h
  ·rename_i k off hx
   simp only [e1 k off hx]
   exact h
  ·exact h
 case b2sD x =>
  obtain ⟨e,e1⟩:=H x (by simp [xsOf])
  simp only [outV,e] at h ⊢
  split at h
  ·exact h.up hF
  ·exact h
 case b2sR x =>
  obtain ⟨e,e1⟩:=H x (by simp [xsOf])
  rcases hR with hR | rfl
  ·cases hR
  ·simp only [outV,e] at h ⊢
   exact h
 case pick c a b =>
  have e1:=(H c (by simp [xsOf])).1
  have e2:=(H a (by simp [xsOf])).1
  have e3:=(H b (by simp [xsOf])).1
  simp only [outV,e1,e2,e3] at h ⊢
  exact h
 all_goals first
  | (have e1:=(H _ (List.mem_cons_self ..)).1
     simp only [outV,e1] at h ⊢
     exact h)
  | (have e1:=(H _ (List.mem_cons_self ..)).1
     have e2:=(H _ (List.mem_cons_of_mem _ (List.mem_cons_self ..))).1
     simp only [outV,e1,e2] at h ⊢
     exact h)
theorem outV_own {o:SOp} (h:simpleD o = true) {k off:Nat} (hT:outV o F L ρ (fun u => u = .own k off)):∃ x ∈ xsOf o,∃ off',ev ρ x = .own k off':=by
 cases o <;> first | (cases h; done) | skip
 case mov x => exact ⟨x,by simp [xsOf],off,hT⟩
 case pick c a b =>
  simp only [outV] at hT
  split at hT
  ·exact ⟨a,by simp [xsOf],off,hT⟩
  ·exact ⟨b,by simp [xsOf],off,hT⟩
  ·exact hT.elim
 case nilck x =>
  simp only [outV] at hT
  split at hT
  ·rename_i k' off' e
   injection hT with h1 h2
   subst h1
   exact ⟨x,by simp [xsOf],off',e⟩
  ·cases hT.2
  ·cases hT
  ·cases hT
  ·split at hT
   ·cases hT.2
   ·exact hT.elim
  ·exact hT.elim
 case mkmv nm x =>
  simp only [outV] at hT
  split at hT
  ·cases hT
  ·exact hT.elim
 case fieldA o' x =>
  simp only [outV] at hT
  split at hT
  ·rename_i k' off' e
   injection hT with h1 h2
   subst h1
   exact ⟨x,by simp [xsOf],off',e⟩
  ·cases hT
  ·cases hT
  ·exact hT.elim
 case bin op x y =>
  simp only [outV] at hT
  split at hT
  ·split at hT
   ·cases op <;> simp only [shI] at hT <;> first | exact hT.elim | (obtain ⟨_,⟨hT⟩⟩:=hT; cases hT; done) | (obtain ⟨_,hT⟩:=hT; cases hT; done)
   ·split at hT
    ·cases op <;> simp only [binI] at hT <;> first | exact hT.elim | (cases hT; done) | (obtain ⟨hT⟩:=hT; cases hT; done) | (obtain ⟨_,⟨hT⟩⟩:=hT; cases hT; done) | (obtain ⟨_,hT⟩:=hT; cases hT; done)
    ·exact hT.elim
  ·cases op <;> simp only [binS] at hT <;> first | exact hT.elim | (cases hT; done) | (obtain ⟨_,hT⟩:=hT; cases hT; done)
  ·exact hT.elim
 case loadD ag n x =>
  simp only [outV] at hT
  split at hT
  ·split at hT
   ·split at hT
    ·cases hT
    ·exact hT.elim
   ·exact hT.elim
  ·obtain ⟨cs,_,_,hT⟩:=hT; cases hT
  ·obtain ⟨cs,_,_,hT⟩:=hT; cases hT
  ·exact hT.elim
 case gload g =>
  simp only [outV] at hT
  obtain ⟨u,t,fr,_,hT⟩:=hT
  cases hT
 case loadR ag n x =>
  simp only [outV] at hT
  split at hT
  ·split at hT
   ·split at hT
    ·cases hT
    ·exact hT.elim
   ·exact hT.elim
  ·obtain ⟨cs,_,_,hT⟩:=hT; cases hT
  ·obtain ⟨cs,_,_,hT⟩:=hT; cases hT
  ·exact hT.elim
 case mlook str ok z0 x i =>
  simp only [outV] at hT
  split at hT
  ·obtain ⟨k,cs,_,_,⟨⟨i,v,_,hT⟩ | ⟨_,hT⟩⟩⟩:=hT <;> cases hT
  ·exact hT.elim
 case mlen x =>
  simp only [outV] at hT
  split at hT
  ·obtain ⟨k,cs,_,_,hT⟩:=hT; cases hT
  ·exact hT.elim
 case loadF ag n x =>
  simp only [outV] at hT
  split at hT
  ·obtain ⟨cs,_,_,hT⟩:=hT; cases hT
  ·obtain ⟨cs,_,_,hT⟩:=hT; cases hT
  ·exact hT.elim
 case loadK key ag n x =>
  simp only [outV] at hT
  split at hT
  ·split at hT
   ·split at hT
    ·split at hT
     ·cases hT
     ·exact hT.elim
    ·exact hT.elim
   ·exact hT.elim
  ·exact hT.elim
 case b2sD x =>
  simp only [outV] at hT
  split at hT
  ·obtain ⟨cs,_,_,⟨bs,_,hT⟩⟩:=hT; cases hT
  ·exact hT.elim
 case b2sR x =>
  simp only [outV] at hT
  split at hT
  ·obtain ⟨_,_,_,bs,_,_,_,hT⟩:=hT; cases hT
  ·exact hT.elim
 all_goals
  simp only [outV] at hT
  repeat' split at hT
 all_goals first
  | exact hT.elim
  | (cases hT; done)
  | (obtain ⟨hT⟩:=hT; cases hT; done)
  | (obtain ⟨_,_,hT⟩:=hT; cases hT; done)
  | (obtain ⟨_,_,_,hT⟩:=hT; cases hT; done)
end
theorem undrawO {P:Program} {s s':SOp} {d:Option Nat} {F:Frz} {L:Loc} {ρ:Env} {K:Kont} (h:drawnO s = some s') (hK:evalOp P s' d F L ρ K):evalOp P s d F L ρ (fun F' L' ρ' => Real F' L' → K F' L' ρ'):=by
 cases s <;> simp only [drawnO,Option.some.injEq,reduceCtorEq] at h <;> subst h
 case store => exact hK
 case mupd =>
  simp only [evalOp] at hK ⊢
  split at hK
  ·obtain ⟨k,cs,h1,h2,h3,cs',h4,h5⟩:=hK
   exact ⟨k,cs,h1,h2,h3,cs',h4,fun _ => h5⟩
  ·exact hK.elim
 ·simp only [evalOp] at hK ⊢; exact hK
 ·simp only [evalOp] at hK ⊢
  split at hK
  ·exact hK
  ·exact hK.elim
 ·simp only [evalOp] at hK ⊢
  split at hK
  ·exact hK
  ·exact hK.elim
 ·simp only [evalOp] at hK ⊢
  split at hK
  ·rename_i dv xv q1 q2
   rw [q1,q2]
   cases xv <;> first
    | exact hK
    | (obtain ⟨⟨k,n,v,nr,xs,ad,cr,cd,j,m,ax,cx,news,_,_,_,_,e,_⟩ | ⟨_,_,_,_,_,_,_,e,_⟩⟩:=hK <;> cases e)
  ·exact hK.elim
theorem evalOp_storeD {P:Program} {F:Frz} {L:Loc} {ρ:Env} {K:Kont} {n:Nat} {a x:X} {d:Option Nat}:evalOp P (.storeD n a x) d F L ρ K = (match len? (vcells (val L ρ x)) n,ones? (vcells (val L ρ x)),ev ρ a with
  | true,true,.own k off => match L.get k with
   | Option.some (.box g t cs) => match memB t ((cs.drop off).take n) n with
    | true => K F (L.set k (.box g t (splice cs off (vcells (val L ρ x))))) (put d (.v undef) ρ)
    | false => False
   | _ => False
  | _,_,_ => False):=rfl
theorem evalOp_storeK {P:Program} {F:Frz} {L:Loc} {ρ:Env} {K:Kont} {key n:Nat} {a x:X} {d:Option Nat}:evalOp P (.storeK key n a x) d F L ρ K = (match len? (vcells (val L ρ x)) n,ones? (vcells (val L ρ x)),ev ρ a with
  | true,true,.own k off => match Nat.beq k key with
   | true => match L.get k with
    | Option.some (.box g t cs) => match memB t ((cs.drop off).take n) n with
     | true => K F (L.set k (.box g t (splice cs off (vcells (val L ρ x))))) (put d (.v undef) ρ)
     | false => False
    | _ => False
   | false => False
  | _,_,_ => False):=rfl
theorem evalOp_st {P:Program} {F:Frz} {L:Loc} {ρ:Env} {K:Kont} {o:SOp} {d:Option Nat} (hs:storeD? o = true) (hK:evalOp P o d F L ρ K) :
  ∃ n a x k off g t cs,(o = .storeD n a x ∨ o = .storeK k n a x) ∧ len? (vcells (val L ρ x)) n = true ∧ ones? (vcells (val L ρ x)) = true ∧ ev ρ a = .own k off ∧ L.get k = some (.box g t cs) ∧ memB t ((cs.drop off).take n) n = true ∧
   K F (L.set k (.box g t (splice cs off (vcells (val L ρ x))))) (put d (.v undef) ρ):=by
 cases o <;> first | (cases hs; done) | skip
 case storeD n a x =>
  rw [evalOp_storeD] at hK
  split at hK
  case h_2 => exact hK.elim
  rename_i k off e1 e2 e3
  split at hK
  case h_2 => exact hK.elim
  rename_i g t cs e4
  split at hK
  case h_2 => exact hK.elim
  rename_i e5
  exact ⟨n,a,x,k,off,g,t,cs,.inl rfl,e1,e2,e3,e4,e5,hK⟩
 case storeK key n a x =>
  rw [evalOp_storeK] at hK
  split at hK
  case h_2 => exact hK.elim
  rename_i k off e1 e2 e3
  split at hK
  case h_2 => exact hK.elim
  rename_i e0
  have e0:=Nat.eq_of_beq_eq_true e0
  subst e0
  split at hK
  case h_2 => exact hK.elim
  rename_i g t cs e4
  split at hK
  case h_2 => exact hK.elim
  rename_i e5
  exact ⟨n,a,x,k,off,g,t,cs,.inr rfl,e1,e2,e3,e4,e5,hK⟩
theorem evalOp_st' {P:Program} {F:Frz} {L:Loc} {ρ:Env} {K:Kont} {o:SOp} {d:Option Nat} {n:Nat} {a x:X} {k off g:Nat} {t:TypeId} {cs:List Value} (ho:o = .storeD n a x ∨ o = .storeK k n a x) (e1:len? (vcells (val L ρ x)) n = true) (e2:ones? (vcells (val L ρ x)) = true) (e3:ev ρ a = .own k off) (e4:L.get k = some (.box g t cs)) (e5:memB t ((cs.drop off).take n) n = true)
  (hK:K F (L.set k (.box g t (splice cs off (vcells (val L ρ x))))) (put d (.v undef) ρ)):evalOp P o d F L ρ K:=by
 rcases ho with rfl | rfl
 ·rw [evalOp_storeD]
  simp only [e1,e2,e3,e4,e5]
  exact hK
 ·rw [evalOp_storeK]
  have e0:Nat.beq k k = true:=by simp
  simp only [e1,e2,e3,e0,e4,e5]
  exact hK
theorem constI_ev {x:X} {n:Int} {ρ:Env} (h:constI x = some n):∃ k,ev ρ x = .v (.int k n):=by
 unfold constI at h
 split at h
 ·injection h with h; subst h; exact ⟨_,rfl⟩
 ·cases h
theorem mkOk_eq {b:Nat} {n m:Int} (h:mkOk b n m = true):0 ≤ n ∧ n = m ∧ n.toNat * b ≤ 140737488355328 ∧ n.toNat ≤ maxLen:=by
 simp only [mkOk,Bool.and_eq_true] at h
 obtain ⟨⟨h1,h2⟩,h3⟩:=h
 split at h3
 ·have h3:=Nat.eq_of_beq_eq_true h3
  subst h3
  exact ⟨by simp,rfl,Nat.le_of_ble_eq_true h1,Nat.le_of_ble_eq_true h2⟩
 ·cases h3
theorem undrawK {P:Program} {bx:List Nat} {s s':SOp} {d:Option Nat} {F:Frz} {L:Loc} {ρ:Env} {K:Kont} (h:drawnK bx s = some s') (hok:(simpleD s' || callD? s' || allocD? s' || appD? s' || storeD? s') = true) (hnc:callD? s' = false) (hK:evalOp P s' d F L ρ K):evalOp P s d F L ρ (fun F' L' ρ' => Real F' L' → K F' L' ρ'):=by
 unfold drawnK at h
 split at h
 ·split at h
  ·rename_i n m e1 e2
   split at h
   ·rename_i hm
    injection h with h
    subst h
    obtain ⟨k1,e1⟩:=constI_ev (ρ:=ρ) e1
    obtain ⟨k2,e2⟩:=constI_ev (ρ:=ρ) e2
    obtain ⟨m1,m2,m3,m4⟩:=mkOk_eq hm
    subst m2
    simp only [evalOp,e1,e2] at hK ⊢
    split at hK
    ·rename_i k
     split at hK
     ·rename_i hk _ _
      simp only [hk]
      exact ⟨m1,Int.le_refl _,m3,m4,hK⟩
     ·exact hK.elim
    ·exact hK.elim
   ·cases h
  ·cases h
 ·rename_i e sz
  injection h with h
  subst h
  simp only [evalOp] at hK ⊢
  split at hK
  ·rename_i k
   split at hK
   ·rename_i hk _ _
    simp only [parts?,hk]
    exact hK
   ·exact hK.elim
  ·exact hK.elim
 ·rename_i a n i
  split at h
  ·injection h with h
   subst h
   refine undraw (s:=.load a n (.t i)) (s':=.loadD a n (.t i)) rfl rfl rfl ?_
   simp only [evalOp,outV] at hK ⊢
   split at hK
   ·rename_i k off e
    simp only [e]
    split at hK
    ·exact hK
    ·exact hK.elim
   ·exact hK.elim
  ·injection h with h
   subst h
   exact undraw (s:=.load a n (.t i)) rfl hok hnc hK
 ·rename_i n i x
  split at h
  ·injection h with h
   subst h
   obtain ⟨n',a',x',k,off,g,t,cs,ho,e1,e2,e3,e4,e5,hK⟩:=evalOp_st rfl hK
   rcases ho with ho | ho
   ·cases ho
   ·injection ho with h1 h2 h3 h4
    subst h1 h2 h3 h4
    exact undraw (s:=.store n (.t i) x) (s':=.storeD n (.t i) x) rfl rfl rfl (evalOp_st' (.inl rfl) e1 e2 e3 e4 e5 hK)
  ·injection h with h
   subst h
   exact undraw (s:=.store n (.t i) x) rfl hok hnc hK
 ·exact undraw h hok hnc hK
def Loc.sameAs (L L':Loc):Prop:=∀ j,L'.get j = L.get j
theorem callD_call {P:Program} {f:Nat} {args:List Value} {F:Frz} {L:Loc} {d:Option Nat} {KK:Frz → Loc → Value → Prop} (h:CallDPt P f args F L d KK):CallPt P f args F L (fun F' L' v => ∃ L2,L'.sameAs L2 ∧ (Real F' L2 → KK F' L2 v)):=by
 cases h with
 | frz R h1 h2 =>
  refine ⟨[],[],[],R,rfl,List.nodup_nil,List.nodup_nil,fun _ h => (by cases h),h1,fun v F' Lo hle hR => ?_⟩
  obtain ⟨rfl,h4⟩:=h2 v F' Lo hle hR
  exact ⟨rfl,fun _ _ _ _ h => (by cases h),_,fun _ => rfl,h4⟩
 | own R k h1 hd hk h2 =>
  refine ⟨[],[k],[],R,rfl,List.nodup_nil,by simp,fun j hj => .inr (by simp at hj; rw [hj]; exact hk),h1,fun v F' Lo hle hR => ?_⟩
  obtain ⟨o,rfl,h4⟩:=h2 v F' Lo hle hR
  exact ⟨rfl,fun _ _ _ _ h => (by cases h),_,fun _ => rfl,h4⟩
 | row R kr rv t sz n xs h1 hk h2 =>
  refine ⟨[kr],[kr],[.row rv t sz n xs],fun F Lo v => Lo = [.row (.slice none 0 0) t sz 0 []] ∧ R F [] v,?_,by simp,by simp,fun j hj => .inl hj,⟨h1.ent,fun F G L v hle hr => ⟨hr.1,h1.mono _ _ _ _ hle hr.2⟩,fun w hs => (h1.run w hs).mono ?_⟩,fun v F' Lo hle hR => ?_⟩
  ·simp only [Loc.sub,hk]
  ·rintro e w' ⟨v,F',Lo,rfl,hs',hst,hR⟩
   obtain ⟨rfl,_⟩:=h2 v F' Lo hst.le hR
   have hb:(Own.row (.slice none 0 0) t sz 0 []).blk = none:=rfl
   have hg:∀ j o,Loc.get (inp [.row (.slice none 0 0) t sz 0 []]) j = some o → o = .row (.slice none 0 0) t sz 0 []:=by
    intro j o e
    rw [inp_get] at e
    split at e
    ·cases hj:j - 1000 with
     | zero => rw [hj] at e; simpa using e.symm
     | succ i => rw [hj] at e; simp at e
    ·cases e
   have hno:∀ b,¬ (inp [.row (.slice none 0 0) t sz 0 []]).owns b:=by
    rintro b ⟨j,o,e,hbo⟩
    rw [hg j o e,hb] at hbo
    cases hbo
   refine ⟨v,F',_,rfl,⟨hs'.frz,fun j o e => ?_,fun j o g e hbo => ?_,fun j j' o o' g e e' hbo => ?_,hs'.glob⟩,⟨hst.le,hst.os,hst.tape,hst.output,hst.size,hst.same,hst.frz,fun b hb => absurd hb (hno b)⟩,rfl,hR⟩
   ·rw [hg j o e]; exact World.ownsRow_nil w' 0 t sz
   ·rw [hg j o e,hb] at hbo; cases hbo
   ·rw [hg j o e,hb] at hbo; cases hbo
  ·obtain ⟨rfl,hR⟩:=hR
   obtain ⟨_,h4⟩:=h2 v F' [] hle hR
   refine ⟨rfl,fun k g t' cs hkk e => ?_,L.set kr (.row (.slice none 0 0) t sz 0 []),fun j => ?_,h4⟩
   ·rw [List.mem_singleton.1 hkk,hk] at e
    cases e
   ·simp only [Loc.dels,Loc.puts,Loc.get_set,Loc.get_del]
    split <;> rfl
 | lent R kr rv t sz n xs h1 hk h2 =>
  refine ⟨[kr],[kr],[.row rv t sz n xs],_,by simp only [Loc.sub,hk],by simp,by simp,fun j hj => .inl hj,h1,fun v F' Lo hle hR => ?_⟩
  obtain ⟨rfl,hR⟩:=hR
  refine ⟨rfl,fun k g t' cs hkk e => ?_,L,fun j => ?_,h2 v F' hle hR⟩
  ·rw [List.mem_singleton.1 hkk,hk] at e
   cases e
  ·simp only [Loc.dels,Loc.puts,Loc.get_set,Loc.get_del]
   split
   ·rename_i hj; rw [hj,hk]
   ·rfl
theorem undrawC {P:Program} {bx:List Nat} {s s':SOp} {d:Option Nat} {F:Frz} {L:Loc} {ρ:Env} {K:Kont} (h:drawnK bx s = some s') (hc:callD? s' = true) (hK:evalOp P s' d F L ρ K):evalOp P s d F L ρ (fun F' L' ρ' => ∃ L2,L'.sameAs L2 ∧ (Real F' L2 → K F' L2 ρ')):=by
 unfold drawnK at h
 split at h
 ·split at h
  ·split at h
   ·injection h with h; subst h; cases hc
   ·cases h
  ·cases h
 ·injection h with h; subst h; cases hc
 ·split at h
  ·injection h with h; subst h; cases hc
  ·injection h with h; subst h; cases hc
 ·split at h
  ·injection h with h; subst h; cases hc
  ·injection h with h; subst h; cases hc
 ·cases s <;> simp only [drawn,Option.some.injEq,reduceCtorEq] at h <;> subst h <;> first | (cases hc; done) | skip
  ·simp only [evalOp] at hK ⊢
   exact callD_call hK
  ·simp only [evalOp] at hK ⊢
   split at hK
   ·exact callD_call hK
   ·exact hK.elim
theorem drawnL_K {fl bx:List Nat} {bk:List (Nat × Nat)} {s s':SOp} (h:drawnL fl bk bx s = some s'):drawnK bx s = some s' ∨ (∃ a n i,s = .load a n (.t i) ∧ s' = .loadF a n (.t i)) ∨ (∃ a n i key,s = .load a n (.t i) ∧ s' = .loadK key a n (.t i)) ∨ (∃ a n i,s = .load a n (.t i) ∧ s' = .loadR a n (.t i)) ∨ ∃ i,s = .b2s (.t i) ∧ s' = .b2sR (.t i):=by
 unfold drawnL at h
 split at h
 ·rename_i a n i
  split at h
  ·injection h with h
   exact .inr (.inl ⟨a,n,i,rfl,h.symm⟩)
  ·split at h
   ·rename_i key _
    split at h
    ·injection h with h
     exact .inr (.inr (.inr (.inl ⟨a,n,i,rfl,h.symm⟩)))
    ·injection h with h
     exact .inr (.inr (.inl ⟨a,n,i,key,rfl,h.symm⟩))
   ·exact .inl h
 ·rename_i i
  split at h
  ·injection h with h
   exact .inr (.inr (.inr (.inr ⟨i,rfl,h.symm⟩)))
  ·exact .inl h
 ·exact .inl h
theorem outV_weak {o:Bool} {n:Nat} {x:X} {F:Frz} {L:Loc} {ρ:Env} {V V':SV → Prop} (h:outV (.load o n x) F L ρ V) (hk:∀ v,V v → V' v):outV (.load o n x) F L ρ V':=by
 have:=One.mono (T:=fun V => outV (.loadR o n x) F L ρ V) (outV_one rfl) V V' hk h
 exact this
theorem undrawL {P:Program} {fl bx:List Nat} {bk:List (Nat × Nat)} {s s':SOp} {d:Option Nat} {F:Frz} {L:Loc} {ρ:Env} {K:Kont} (h:drawnL fl bk bx s = some s') (hok:(simpleD s' || callD? s' || allocD? s' || appD? s' || storeD? s') = true) (hnc:callD? s' = false) (hK:evalOp P s' d F L ρ K):evalOp P s d F L ρ (fun F' L' ρ' => Real F' L' → K F' L' ρ'):=by
 rcases drawnL_K h with h | ⟨a,n,i,rfl,rfl⟩ | ⟨a,n,i,key,rfl,rfl⟩ | ⟨a,n,i,rfl,rfl⟩ | ⟨i,rfl,rfl⟩
 rotate_left 3
 ·have hK:outV (.load a n (.t i)) F L ρ (fun v => K F L (put d v ρ)):=hK
  exact outV_weak hK fun v h _ => h
 rotate_left
 ·exact undrawK h hok hnc hK
 ·refine undraw (s:=.load a n (.t i)) (s':=.loadD a n (.t i)) rfl rfl rfl ?_
  simp only [evalOp,outV] at hK ⊢
  split at hK
  ·rename_i e
   simp only [e]
   exact hK
  ·rename_i e
   simp only [e]
   exact hK
  ·exact hK.elim
 ·refine undraw (s:=.load a n (.t i)) (s':=.loadD a n (.t i)) rfl rfl rfl ?_
  simp only [evalOp,outV] at hK ⊢
  split at hK
  ·rename_i k off e
   simp only [e]
   split at hK
   ·exact hK
   ·exact hK.elim
  ·exact hK.elim
 ·have hK:outV (.b2sR (.t i)) F L ρ (fun v => K F L (put d v ρ)):=hK
  show outV (.b2s (.t i)) F L ρ (fun v => Real F L → K F L (put d v ρ))
  unfold outV at hK ⊢
  dsimp only at hK ⊢
  split at hK
  ·rename_i ad n c e
   obtain ⟨k,ty,c',bs,h1,h2,h3,h4⟩:=hK
   refine ⟨bs.map fun b => Value.int .u8 b.toNat,by simp [h2],?_,bs,rfl,fun _ => h4⟩
   cases ad with
   | none => exact .inr (.inr (.inl (h3 rfl)))
   | some ad => exact .inr (.inl ⟨k,_,ty,1,n,_,ad,c',h1,rfl,rfl,fun i u hu => by rw [Nat.zero_add]; exact hu⟩)
  ·exact hK.elim
theorem undrawLC {P:Program} {fl bx:List Nat} {bk:List (Nat × Nat)} {s s':SOp} {d:Option Nat} {F:Frz} {L:Loc} {ρ:Env} {K:Kont} (h:drawnL fl bk bx s = some s') (hc:callD? s' = true) (hK:evalOp P s' d F L ρ K):evalOp P s d F L ρ (fun F' L' ρ' => ∃ L2,L'.sameAs L2 ∧ (Real F' L2 → K F' L2 ρ')):=by
 rcases drawnL_K h with h | ⟨a,n,i,rfl,rfl⟩ | ⟨a,n,i,key,rfl,rfl⟩ | ⟨a,n,i,rfl,rfl⟩ | ⟨i,rfl,rfl⟩
 ·exact undrawC h hc hK
 ·cases hc
 ·cases hc
 ·cases hc
 ·cases hc
theorem set_comm:∀ (L:Loc) {k k':Nat} (o o':Own),k ≠ k' → (L.set k o).set k' o' = (L.set k' o').set k o:=by
 intro L k k' o o' h
 have hb:Nat.beq k k' = false:=by cases e:Nat.beq k k' with | true => exact absurd (Nat.eq_of_beq_eq_true e) h | false => rfl
 have hb':Nat.beq k' k = false:=by cases e:Nat.beq k' k with | true => exact absurd (Nat.eq_of_beq_eq_true e).symm h | false => rfl
 have ble_or:∀ {i j:Nat},Nat.beq i j = false → (Nat.ble i j = true ∧ Nat.ble j i = false) ∨ (Nat.ble i j = false ∧ Nat.ble j i = true):=by
  intro i j hij
  have hne:=beq_f hij
  rcases Nat.lt_or_gt_of_ne hne with hlt | hgt
  ·refine .inl ⟨Nat.ble_eq_true_of_le (by omega),?_⟩
   cases e:Nat.ble j i with | true => have:=Nat.le_of_ble_eq_true e; omega | false => rfl
  ·refine .inr ⟨?_,Nat.ble_eq_true_of_le (by omega)⟩
   cases e:Nat.ble i j with | true => have:=Nat.le_of_ble_eq_true e; omega | false => rfl
 induction L with
 | nil =>
  simp only [Loc.set,hb,hb']
  rcases ble_or hb with ⟨h1,h2⟩ | ⟨h1,h2⟩ <;> simp only [h1,h2,Loc.set]
 | cons p l ih =>
  obtain ⟨j,q⟩:=p
  cases e1:Nat.beq j k with
  | true =>
   have:=Nat.eq_of_beq_eq_true e1
   subst this
   have hjj:Nat.beq j j = true:=by simp
   simp only [Loc.set,hjj,hb,hb']
   rcases ble_or hb with ⟨h1,h2⟩ | ⟨h1,h2⟩
   ·simp only [h1,Loc.set,hjj]
   ·simp only [h1,h2,Loc.set,hjj,hb']
  | false =>
   cases e2:Nat.beq j k' with
   | true =>
    have:=Nat.eq_of_beq_eq_true e2
    subst this
    have hjj:Nat.beq j j = true:=by simp
    simp only [Loc.set,hjj,hb,hb']
    rcases ble_or hb' with ⟨h1,h2⟩ | ⟨h1,h2⟩
    ·simp only [h1,Loc.set,hjj]
    ·simp only [h1,h2,Loc.set,hjj,hb]
   | false =>
    simp only [Loc.set,e1,e2]
    rcases ble_or e1 with ⟨a1,a2⟩ | ⟨a1,a2⟩ <;> rcases ble_or e2 with ⟨b1,b2⟩ | ⟨b1,b2⟩
    ·simp only [a1,b1,Loc.set,e1,e2,ih]
    ·simp only [a1,b1,Loc.set,e1,e2,hb,hb']
     have h1:Nat.ble k' k = true:=by
      have x1:=Nat.le_of_ble_eq_true a1
      have x2:=Nat.le_of_ble_eq_true b2
      exact Nat.ble_eq_true_of_le (by omega)
     simp only [h1]
    ·simp only [a1,b1,Loc.set,e1,e2,hb,hb']
     have h1:Nat.ble k k' = true:=by
      have x1:=Nat.le_of_ble_eq_true b1
      have x2:=Nat.le_of_ble_eq_true a2
      exact Nat.ble_eq_true_of_le (by omega)
     simp only [h1]
    ·rcases ble_or hb with ⟨c1,c2⟩ | ⟨c1,c2⟩
     ·simp only [a1,b1,Loc.set,e1,e2,hb,hb',c1,c2]
     ·simp only [a1,b1,Loc.set,e1,e2,hb,hb',c1,c2]
theorem put_comm {d d':Option Nat} {v u:SV} {ρ:Env} (h:∀ k,d = some k → d' ≠ some k):put d v (put d' u ρ) = put d' u (put d v ρ):=by
 funext t
 simp only [put_eq]
 cases d with
 | none => rfl
 | some k =>
  cases d' with
  | none => rfl
  | some k' =>
   have:=h k rfl
   simp only []
   split <;> split
   ·rename_i h1 h2; subst h1; subst h2; exact absurd rfl this
   ·rfl
   ·rfl
   ·rfl
def slotsX:List X → List Nat
 | [] => []
 | .t n :: l => n :: slotsX l
 | .mt _ n :: l => n :: slotsX l
 | _ :: l => slotsX l
theorem slotsX_mem:∀ {l:List X} {n:Nat},X.t n ∈ l → n ∈ slotsX l
 | [],n,h => by cases h
 | .t m :: l,n,h => by
  simp only [slotsX,List.mem_cons]
  rcases List.mem_cons.1 h with h | h
  ·injection h with h; exact .inl h
  ·exact .inr (slotsX_mem h)
 | .c v :: l,n,h => by
  rcases List.mem_cons.1 h with h | h
  ·cases h
  ·exact slotsX_mem (l:=l) h
 | .fn f :: l,n,h => by
  rcases List.mem_cons.1 h with h | h
  ·cases h
  ·exact slotsX_mem (l:=l) h
 | .mt nm m :: l,n,h => by
  simp only [slotsX,List.mem_cons]
  rcases List.mem_cons.1 h with h | h
  ·cases h
  ·exact .inr (slotsX_mem h)
theorem slotsX_mt:∀ {l:List X} {nm:String} {n:Nat},X.mt nm n ∈ l → n ∈ slotsX l
 | [],_,n,h => by cases h
 | .t m :: l,nm,n,h => by
  simp only [slotsX,List.mem_cons]
  rcases List.mem_cons.1 h with h | h
  ·cases h
  ·exact .inr (slotsX_mt h)
 | .c v :: l,nm,n,h => by
  rcases List.mem_cons.1 h with h | h
  ·cases h
  ·exact slotsX_mt (l:=l) h
 | .fn f :: l,nm,n,h => by
  rcases List.mem_cons.1 h with h | h
  ·cases h
  ·exact slotsX_mt (l:=l) h
 | .mt nm' m :: l,nm,n,h => by
  simp only [slotsX,List.mem_cons]
  rcases List.mem_cons.1 h with h | h
  ·injection h with h1 h2; exact .inl h2
  ·exact .inr (slotsX_mt h)
theorem ev_put {l:List X} {d:Option Nat} {v:SV} {ρ:Env} (h:∀ k,d = some k → k ∉ slotsX l):∀ x ∈ l,ev (put d v ρ) x = ev ρ x:=by
 intro x hx
 cases x with
 | t n =>
  simp only [ev,put_eq]
  cases d with
  | none => rfl
  | some k =>
   simp only []
   rw [if_neg]
   intro e
   subst e
   exact h n rfl (slotsX_mem hx)
 | c v => rfl
 | fn f => rfl
 | mt nm n =>
  simp only [ev,put_eq]
  cases d with
  | none => rfl
  | some k =>
   simp only []
   rw [if_neg]
   intro e
   subst e
   exact h n rfl (slotsX_mt hx)
def Vd (L:Loc) (ρ:Env):Prop:=∀ t k off,ρ t = .own k off → ∃ g ty cs,L.get k = some (.box g ty cs)
theorem Vd.ev {L:Loc} {ρ:Env} (h:Vd L ρ) {x:X} {k off:Nat} (e:Fr.ev ρ x = .own k off):∃ g ty cs,L.get k = some (.box g ty cs):=by
 cases x with
 | t n => exact h n k off e
 | c v => cases e
 | fn f => cases e
 | mt nm n =>
  simp only [Fr.ev,mtv] at e
  split at e <;> cases e
def Keeps (L L':Loc):Prop:=∀ k g ty cs,L.get k = some (.box g ty cs) → L'.get k = some (.box g ty cs)
theorem Keeps.refl (L:Loc):Keeps L L:=fun _ _ _ _ h => h
theorem Keeps.trans {L L' L'':Loc} (h:Keeps L L') (h':Keeps L' L''):Keeps L L'':=fun k g ty cs e => h' k g ty cs (h k g ty cs e)
theorem get_set_ne {L:Loc} {k j:Nat} {o:Own} (h:j ≠ k):(L.set k o).get j = L.get j:=by rw [Loc.get_set,if_neg h]
theorem Keeps.new {L:Loc} {k:Nat} {o:Own} (h:L.get k = none):Keeps L (L.set k o):=fun j g ty cs e => by
 rw [get_set_ne (fun ej => by rw [ej,h] at e; cases e)]; exact e
theorem Keeps.row {L:Loc} {k:Nat} {v:Value} {t:TypeId} {sz n:Nat} {xs:List Value} {o:Own} (h:L.get k = some (.row v t sz n xs)):Keeps L (L.set k o):=fun j g ty cs e => by
 rw [get_set_ne (fun ej => by rw [ej,h] at e; cases e)]; exact e
section
variable {P:Program} {F:Frz} {L:Loc} {ρ:Env} {K:Kont}
theorem CallsA.up {f:Nat} {args:Array Value} {F F1:Frz} {R:Frz → List Own → Value → Prop} {Lin:List Own} (h:CallsA P f args F Lin R) (hle:F.le F1) (hg:Glob F):CallsA P f args F1 Lin R:=by
 refine ⟨h.ent,h.mono,fun w hs => ?_⟩
 have hs0:St F (inp Lin) w:=⟨fun b o e => hs.frz b o (hle b o e),hs.own,fun k o g e hb => (by
  cases h1:F g with
  | none => rfl
  | some o1 => have h2:=hle g o1 h1; rw [hs.off k o g e hb] at h2; cases h2),hs.sep,hg⟩
 refine (h.run w hs0).mono ?_
 rintro e w' ⟨v,F',Lo,rfl,hs',hst,hR⟩
 have hno:∀ b o,F1 b = some o → ¬ (inp Lin).owns b:=by
  rintro b o e1 ⟨k,o',e,hb⟩
  rw [hs.off k o' b e hb] at e1; cases e1
 have hF1:∀ b o,F1 b = some o → w'.heap[b]? = some o:=fun b o e => by
  have h1:=hs.frz b o e
  rw [hst.same b (Array.getElem?_eq_some_iff.1 h1).1 (hno b o e)]
  exact h1
 have hle':F'.le (fun b => match F' b with | some o => some o | none => F1 b):=fun b o e => by simp only [e]
 refine ⟨v,fun b => match F' b with | some o => some o | none => F1 b,Lo,rfl,⟨fun b o e => ?_,hs'.own,fun k o g e hb => ?_,hs'.sep,Glob.mono hle' hs'.glob⟩,⟨fun b o e => ?_,hst.os,hst.tape,hst.output,hst.size,hst.same,fun b hb => ?_,hst.own⟩,h.mono _ _ _ _ hle' hR⟩
 ·split at e
  ·rename_i o' ho'
   injection e with e
   subst e
   exact hs'.frz b _ ho'
  ·exact hF1 b o e
 ·have h1:=hs'.off k o g e hb
  simp only [h1]
  cases h2:F1 g with
  | none => rfl
  | some o2 =>
   rcases hst.own g ⟨k,o,e,hb⟩ with h3 | h3
   ·exact absurd h3 (hno g o2 h2)
   ·have:=(Array.getElem?_eq_some_iff.1 (hs.frz g o2 h2)).1; omega
 ·cases h1:F' b with
  | none => exact e
  | some o' =>
   have h2:=hs'.frz b o' h1
   rw [hF1 b o e] at h2
   exact h2.symm
 ·cases h1:F' b with
  | none => rw [h1] at hb; exact .inl hb
  | some o' =>
   rcases hst.frz b (by rw [h1]; simp) with h3 | h3 | h3
   ·refine .inl (fun h4 => ?_)
    cases h5:F b with
    | none => exact h3 h5
    | some o5 => have:=hle b o5 h5; rw [h4] at this; cases this
   ·exact .inr (.inl h3)
   ·exact .inr (.inr h3)
theorem Real.glob {F:Frz} {L:Loc} (h:Real F L):Glob F:=by obtain ⟨w,hs⟩:=h; exact hs.glob
theorem Real.down {F F':Frz} {L L':Loc} (h:Real F' L') (hle:F.le F') (hg:Glob F) (hp:L'.part L):Real F L:=by
 obtain ⟨w,hs⟩:=h
 have hs:=hs.part hp
 refine ⟨w,⟨fun b o e => hs.frz b o (hle b o e),hs.own,fun k o g e hb => ?_,hs.sep,hg⟩⟩
 cases hF:F g with
 | none => rfl
 | some o' => have h1:=hle g o' hF; rw [hs.off k o g e hb] at h1; cases h1
theorem part_set {L:Loc} {k:Nat} {o:Own} (h:L.get k = none):(L.set k o).part L:=fun j p e => by
 rw [get_set_ne (fun ej => by rw [ej,h] at e; cases e)]; exact e
theorem part_set_set {L L1:Loc} {k:Nat} {o:Own} (h:L1.part L) (hk:L.get k = none):(L1.set k o).part (L.set k o):=fun j p e => by
 rw [Loc.get_set] at e ⊢
 split
 ·rename_i hj; rw [if_pos hj] at e; exact e
 ·rename_i hj; rw [if_neg hj] at e; exact h j p e
def Left (d:Option Nat) (L L':Loc):Prop:=L' = L ∨ (∃ k o,d = some k ∧ L.get k = none ∧ L' = L.set k o) ∨ ∃ k rv t sz n xs,L.get k = some (.row rv t sz n xs) ∧ L' = L.set k (.row (.slice none 0 0) t sz 0 [])
theorem Left.keeps {d:Option Nat} {L L':Loc} (h:Left d L L'):Keeps L L':=by
 rcases h with rfl | ⟨k,o,_,hk,rfl⟩ | ⟨k,rv,t,sz,n,xs,hk,rfl⟩
 ·exact Keeps.refl _
 ·exact Keeps.new hk
 ·exact Keeps.row hk
theorem part_set_both {L L1:Loc} {k:Nat} {o:Own} (h:L1.part L):(L1.set k o).part (L.set k o):=fun j p e => by
 rw [Loc.get_set] at e ⊢
 split
 ·rename_i hj; rw [if_pos hj] at e; exact e
 ·rename_i hj; rw [if_neg hj] at e; exact h j p e
theorem CallDPt.imp {f:Nat} {args:List Value} {F:Frz} {L:Loc} {d:Option Nat} {K K':Frz → Loc → Value → Prop} (h:CallDPt P f args F L d K) (hk:∀ F' L' v,F.le F' → Left d L L' → Real F' L' → K F' L' v → K' F' L' v):CallDPt P f args F L d K':=by
 cases h with
 | frz R h1 h2 => exact .frz R h1 fun v F' Lo hle hR => ⟨(h2 v F' Lo hle hR).1,fun hr => hk F' L v hle (.inl rfl) hr ((h2 v F' Lo hle hR).2 hr)⟩
 | own R k h1 hd hkn h2 =>
  refine .own R k h1 hd hkn fun v F' Lo hle hR => ?_
  obtain ⟨o,h3,h4⟩:=h2 v F' Lo hle hR
  exact ⟨o,h3,fun hr => hk F' _ v hle (.inr (.inl ⟨k,o,hd,hkn,rfl⟩)) hr (h4 hr)⟩
 | row R kr rv t sz n xs h1 hkr h2 =>
  refine .row R kr rv t sz n xs h1 hkr fun v F' Lo hle hR => ?_
  obtain ⟨h3,h4⟩:=h2 v F' Lo hle hR
  exact ⟨h3,fun hr => hk F' _ v hle (.inr (.inr ⟨kr,rv,t,sz,n,xs,hkr,rfl⟩)) hr (h4 hr)⟩
 | lent R kr rv t sz n xs h1 hkr h2 => exact .lent R kr rv t sz n xs h1 hkr fun v F' hle hR hr => hk F' L v hle (.inl rfl) hr (h2 v F' hle hR hr)
theorem CallDPt.up {f:Nat} {args:List Value} {F F1:Frz} {L L1:Loc} {d:Option Nat} {K:Frz → Loc → Value → Prop} (h:CallDPt P f args F L d K) (hle:F.le F1) (hg:Glob F) (hp:L1.part L) (hd1:∀ k,d = some k → L.get k = none → L1.get k = none) :
  CallDPt P f args F1 L1 d (fun F' L' v => F1.le F' ∧ Real F' L' ∧ ((L' = L1 ∧ K F' L v) ∨ (∃ k o,d = some k ∧ L.get k = none ∧ L' = L1.set k o ∧ K F' (L.set k o) v) ∨ ∃ k rv t sz n xs,L.get k = some (.row rv t sz n xs) ∧ L' = L1.set k (.row (.slice none 0 0) t sz 0 []) ∧ K F' (L.set k (.row (.slice none 0 0) t sz 0 [])) v)):=by
 cases h with
 | frz R h1 h2 =>
  refine .frz R (h1.up hle hg) fun v F' Lo hle' hR => ?_
  obtain ⟨h3,h4⟩:=h2 v F' Lo (Frz.le_trans hle hle') hR
  exact ⟨h3,fun hr => ⟨hle',hr,.inl ⟨rfl,h4 (hr.down (Frz.le_refl _) hr.glob hp)⟩⟩⟩
 | own R k h1 hd hkn h2 =>
  refine .own R k (h1.up hle hg) hd (hd1 k hd hkn) fun v F' Lo hle' hR => ?_
  obtain ⟨o,h3,h4⟩:=h2 v F' Lo (Frz.le_trans hle hle') hR
  exact ⟨o,h3,fun hr => ⟨hle',hr,.inr (.inl ⟨k,o,hd,hkn,rfl,h4 (hr.down (Frz.le_refl _) hr.glob (part_set_set hp hkn))⟩)⟩⟩
 | row R kr rv t sz n xs h1 hkr h2 =>
  refine .row R kr rv t sz n xs (h1.up hle hg) (hp kr _ hkr) fun v F' Lo hle' hR => ?_
  obtain ⟨h3,h4⟩:=h2 v F' Lo (Frz.le_trans hle hle') hR
  exact ⟨h3,fun hr => ⟨hle',hr,.inr (.inr ⟨kr,rv,t,sz,n,xs,hkr,rfl,h4 (hr.down (Frz.le_refl _) hr.glob (part_set_both hp))⟩)⟩⟩
 | lent R kr rv t sz n xs h1 hkr h2 =>
  exact .lent R kr rv t sz n xs (h1.up hle hg) (hp kr _ hkr) fun v F' hle' hR hr => ⟨hle',hr,.inl ⟨rfl,h2 v F' (Frz.le_trans hle hle') hR (hr.down (Frz.le_refl _) hr.glob hp)⟩⟩
theorem CallDPt.some {f:Nat} {args:List Value} {F:Frz} {L:Loc} {d:Option Nat} {K:Frz → Loc → Value → Prop} (h:CallDPt P f args F L d K) (hr:Real F L):∃ F' L' v,F.le F' ∧ Left d L L' ∧ Real F' L' ∧ K F' L' v:=by
 obtain ⟨w,hs⟩:=hr
 have hs0:St F (inp []) w:=⟨hs.frz,fun k o e => (by cases e),fun k o g e => (by cases e),fun k k' o o' g e => (by cases e),hs.glob⟩
 cases h with
 | frz R h1 h2 =>
  obtain ⟨e,w',fr,⟨v,F',Lo,_,hs',hst,hR⟩,_⟩:=h1.run w hs0 []
  obtain ⟨rfl,h3⟩:=h2 v F' Lo hst.le hR
  have hreal:Real F' L:=⟨w',(call_back (ks:=[]) (ko:=[]) hs rfl List.nodup_nil List.nodup_nil (fun _ h => (by cases h)) hs' hst rfl).1⟩
  exact ⟨F',L,v,hst.le,.inl rfl,hreal,h3 hreal⟩
 | own R k h1 hd hkn h2 =>
  obtain ⟨e,w',fr,⟨v,F',Lo,_,hs',hst,hR⟩,_⟩:=h1.run w hs0 []
  obtain ⟨o,rfl,h3⟩:=h2 v F' Lo hst.le hR
  have hreal:Real F' (L.set k o):=⟨w',(call_back (ks:=[]) (ko:=[k]) hs rfl List.nodup_nil (by simp) (fun j hj => .inr (by simp at hj; rw [hj]; exact hkn)) hs' hst rfl).1⟩
  exact ⟨F',_,v,hst.le,.inr (.inl ⟨k,o,hd,hkn,rfl⟩),hreal,h3 hreal⟩
 | row R kr rv t sz n xs h1 hkr h2 =>
  have hsub:L.sub [kr] = Option.some [.row rv t sz n xs]:=by simp only [Loc.sub,hkr]
  obtain ⟨e,w',fr,⟨v,F',Lo,_,hs',hst,hR⟩,_⟩:=h1.run w (hs.handed hsub (by simp)) []
  obtain ⟨rfl,h3⟩:=h2 v F' Lo hst.le hR
  have hb:=(call_back (ks:=[kr]) (ko:=[]) hs hsub (by simp) List.nodup_nil (fun _ h => (by cases h)) hs' hst rfl).1
  have hreal:Real F' (L.set kr (.row (.slice none 0 0) t sz 0 [])):=by
   have h5:((L.dels [kr]).puts [] []).get kr = none:=by simp only [Loc.dels,Loc.puts,Loc.get_del,if_pos]
   have h6:=hb.put h5 (o:=.row (.slice none 0 0) t sz 0 []) (World.ownsRow_nil w' 0 t sz) (fun g hg => by cases hg)
   refine ⟨w',h6.part fun j p e => ?_⟩
   rw [Loc.get_set] at e ⊢
   split at e
   ·rename_i hj; rw [if_pos hj]; exact e
   ·rename_i hj
    rw [if_neg hj]
    simp only [Loc.dels,Loc.puts,Loc.get_del,if_neg hj]; exact e
  exact ⟨F',_,v,hst.le,.inr (.inr ⟨kr,rv,t,sz,n,xs,hkr,rfl⟩),hreal,h3 hreal⟩
 | lent R kr rv t sz n xs h1 hkr h2 =>
  have hsub:L.sub [kr] = Option.some [.row rv t sz n xs]:=by simp only [Loc.sub,hkr]
  obtain ⟨e,w',fr,⟨v,F',Lo,_,hs',hst,⟨rfl,hR⟩⟩,_⟩:=h1.run w (hs.handed hsub (by simp)) []
  have hb:=(call_back (ks:=[kr]) (ko:=[kr]) hs hsub (by simp) (by simp) (fun _ h => .inl h) hs' hst rfl).1
  have hreal:Real F' L:=by
   refine ⟨w',hb.part fun j p e => ?_⟩
   simp only [Loc.dels,Loc.puts,Loc.get_set,Loc.get_del]
   split
   ·rename_i hj
    rw [hj,hkr] at e
    exact e
   ·exact e
  exact ⟨F',L,v,hst.le,.inl rfl,hreal,h2 v F' hst.le hR hreal⟩
theorem AppDPt.imp {F F':Frz} {L:Loc} {d:Option Nat} {e sz b:Nat} {s x:Value} {K K':Loc → Value → Prop} (h:AppDPt F L d e sz b s x K) (hle:F.le F')
  (hk:∀ kd n xs n' xs' v,(L.get kd = some (.row s e sz n xs) ∨ (d = some kd ∧ L.get kd = none)) → Real F' (L.set kd (.row v e sz n' xs')) → (Real F (L.set kd (.row v e sz n' xs')) → K (L.set kd (.row v e sz n' xs')) v) → K' (L.set kd (.row v e sz n' xs')) v):AppDPt F' L d e sz b s x K':=by
 obtain ⟨kd,n,xs,m,news,h1,⟨ad,c,h2,h3,h4⟩,h5,h6,h7,h8⟩:=h
 refine ⟨kd,n,xs,m,news,?_,⟨ad,c,h2,h3,?_⟩,h5,h6,h7,fun v hv hr => hk kd n xs _ _ v ?_ hr (h8 v hv)⟩
 ·rcases h1 with h1 | h1 | ⟨h1,h1',ad,q1,q2,q3,q4⟩
  ·exact .inl h1
  ·exact .inr (.inl h1)
  ·exact .inr (.inr ⟨h1,h1',ad,q1,q2,q3,q4.imp (·.mono hle) id⟩)
 ·rcases h4 with h4 | h4
  ·exact .inl (h4.mono hle)
  ·exact .inr h4
 ·rcases h1 with h1 | ⟨h1,h1',_⟩ | ⟨h1,h1',_⟩
  ·exact .inl h1
  ·exact .inr ⟨h1,h1'⟩
  ·exact .inr ⟨h1,h1'⟩
theorem part_set2 {L L1:Loc} {k:Nat} {o:Own} (h:L1.part L):(L1.set k o).part (L.set k o):=fun j p e => by
 rw [Loc.get_set] at e ⊢
 split
 ·rename_i hj; rw [if_pos hj] at e; exact e
 ·rename_i hj; rw [if_neg hj] at e; exact h j p e
theorem evalOp_appD {e sz b:Nat} {zs:List Value} {s x:X} {d:Option Nat}:evalOp P (.appD e sz b zs s x) d F L ρ K = (match ev ρ s,ev ρ x with
  | .v sv,.v xv => AppDPt F L d e sz b sv xv fun L1 v => K F L1 (put d (.v v) ρ)
  | _,_ => False):=rfl
theorem Real.store {F:Frz} {L:Loc} {k g:Nat} {t:TypeId} {cs cs':List Value} (ht0:t ≠ 0) (hr:Real F L) (hk:L.get k = Option.some (.box g t cs)):Real F (L.set k (.box g t cs')):=by
 obtain ⟨w,hs⟩:=hr
 have hgrow:=setRow_grown w g cs'.toArray
 refine ⟨w.setRow g cs'.toArray,hs.turn hk ?_ (fun b hb1 hne => hgrow.block b hb1 (fun e => hne (by rw [e]; rfl))) (fun g' hg' => .inl hg')⟩
 show _ = _
 have h0:w.heap[g]? = Option.some (.cells cs.toArray t (0,0)):=by rw [← boxObj_ne ht0]; exact hs.own k _ hk
 rw [boxObj_ne ht0]
 exact setRow_heap w g cs.toArray _ t _ h0
theorem AppDPt.some {F:Frz} {L:Loc} {d:Option Nat} {e sz b:Nat} {s x:Value} {K:Loc → Value → Prop} (h:AppDPt F L d e sz b s x K) (hr:Real F L) :
  ∃ kd v n' xs',((∃ n xs,L.get kd = some (.row s e sz n xs)) ∨ (d = some kd ∧ L.get kd = none)) ∧ Real F (L.set kd (.row v e sz n' xs')) ∧ K (L.set kd (.row v e sz n' xs')) v:=by
 obtain ⟨kd,n,xs,m,news,h1,⟨ad,c,h2,h3,h4⟩,h5,h6,h7,h8⟩:=h
 obtain ⟨w,hs⟩:=hr
 have hlen:xs.length = n * sz:=by
  rcases h1 with h1 | ⟨_,_,rfl,rfl,_⟩ | ⟨_,_,_,_,_,q,_⟩
  ·exact (hs.own kd _ h1).1
  ·simp
  ·exact q
 have hrow:=ownsRow_lit' w (xs ++ news) e (n + m) sz h6 (by rw [List.length_append,hlen,h3,Nat.add_mul])
 have hs':St F (L.del kd) w:=hs.part (fun j p e => by rw [Loc.get_del] at e; split at e; cases e; exact e)
 have hk':(L.del kd).get kd = none:=by rw [Loc.get_del,if_pos rfl]
 have hst:=(alloc_own hs' hk' (cs:=(xs ++ news).toArray) (t:=e) (e:=.row (.slice (Option.some ⟨w.heap.size,0,none⟩) (n + m) (n + m)) e sz (n + m) (xs ++ news)) rfl hrow).1
 have hreal:Real F (L.set kd (.row (.slice (Option.some ⟨w.heap.size,0,none⟩) (n + m) (n + m)) e sz (n + m) (xs ++ news))) :=
  ⟨_,hst.part (fun j p e => by
   rw [Loc.get_set] at e ⊢
   split
   ·rename_i hj; rw [if_pos hj] at e; exact e
   ·rename_i hj; rw [if_neg hj] at e; rw [Loc.get_del,if_neg hj]; exact e)⟩
 refine ⟨kd,_,n + m,xs ++ news,?_,hreal,h8 _ ⟨_,_,rfl,fun e => (by cases e)⟩ hreal⟩
 rcases h1 with h1 | ⟨h1,h1',_⟩ | ⟨h1,h1',_⟩
 ·exact .inl ⟨n,xs,h1⟩
 ·exact .inr ⟨h1,h1'⟩
 ·exact .inr ⟨h1,h1'⟩
def okD0 (o:SOp):Bool:=simpleD o || callD? o || allocD? o || appD? o
def okD (o:SOp):Bool:=okD0 o || storeD? o
theorem alike_env {o:SOp} {d:Option Nat} {v:SV} (h:∀ k,d = some k → k ∉ slotsX (xsOf o)):Alike o L L ρ (put d v ρ) :=
 fun x hx => ⟨ev_put h x hx,fun _ _ _ => rfl⟩
theorem evalOp_env {o:SOp} (ho:okD o = true) {d d':Option Nat} {u:SV} (h:∀ k,d' = some k → k ∉ slotsX (xsOf o)) (hd:∀ k,d = some k → d' ≠ some k)
  (hK:evalOp P o d F L ρ (fun F1 L1 ρ1 => K F1 L1 (put d' u ρ1))):evalOp P o d F L (put d' u ρ) K:=by
 by_cases hs:simpleD o = true
 ·rw [evalOp_simple hs] at hK ⊢
  have:=outV_up hs (Frz.le_refl F) (alike_env (L:=L) (ρ:=ρ) (v:=u) h) hK
  refine (outV_one hs).mono _ _ (fun v hv => ?_) this
  rw [put_comm hd]
  exact hv
 ·have hv:∀ x ∈ xsOf o,val L (put d' u ρ) x = val L ρ x:=fun x hx => by simp only [val,ev_put h x hx]
  cases o <;> first | (exfalso; revert hs ho; simp [okD,okD0,simpleD,callD?,allocD?,appD?,storeD?]; done) | skip
  case boxD t x =>
   have e:=hv x (by simp [xsOf])
   simp only [evalOp,e] at hK ⊢
   split at hK
   ·rename_i k
    split at hK
    ·intro g hr
     have:=hK g hr
     rw [put_comm hd]
     exact this
    ·exact hK
   ·exact hK
  case allocD t zs =>
   simp only [evalOp] at hK ⊢
   split at hK
   ·rename_i k
    split at hK
    ·intro g hr
     have:=hK g hr
     rw [put_comm hd]
     exact this
    ·exact hK
   ·exact hK
  case mkFD e n sz xs =>
   have e1:=parts_alike (sz:=sz) (xs:=xs) hv
   have e2:=cellsOf_alike (xs:=xs) hv
   simp only [evalOp,e1,e2] at hK ⊢
   split at hK
   ·intro g F' hle hg hr
    rw [put_comm hd]
    exact hK g F' hle hg hr
   ·exact hK
  case callD f args =>
   have e1:=evals_alike (xs:=args) hv
   simp only [evalOp,e1] at hK ⊢
   refine hK.imp fun F' L' v _ _ _ h => ?_
   rw [put_comm hd]
   exact h
  case callVD f args =>
   have e0:=ev_put (v:=u) (ρ:=ρ) h f (by simp [xsOf])
   have e1:=evals_alike (xs:=args) (L:=L) (L':=L) (ρ:=ρ) (ρ':=put d' u ρ) (fun x hx => hv x (by simp [xsOf,hx]))
   simp only [evalOp,e0,e1] at hK ⊢
   split at hK
   ·refine hK.imp fun F' L' v _ _ _ h => ?_
    rw [put_comm hd]
    exact h
   ·exact hK
  case appD e sz b zs s x =>
   have e0:=ev_put (v:=u) (ρ:=ρ) h s (by simp [xsOf])
   have e1:=ev_put (v:=u) (ρ:=ρ) h x (by simp [xsOf])
   simp only [evalOp,e0,e1] at hK ⊢
   split at hK
   ·refine hK.imp (Frz.le_refl F) fun kd n xs n' xs' v _ hr h => ?_
    rw [put_comm hd]
    exact h hr
   ·exact hK
  case makeSD e sz n zs =>
   simp only [evalOp] at hK ⊢
   split at hK
   ·rename_i k
    split at hK
    ·intro g hr
     have:=hK g hr
     rw [put_comm hd]
     exact this
    ·exact hK
   ·exact hK
  case storeD n a x =>
   obtain ⟨n',a',x',k,off,g,t,cs,ho',e1,e2,e3,e4,e5,hK⟩:=evalOp_st rfl hK
   have e0:=ev_put (v:=u) (ρ:=ρ) h a (by simp [xsOf])
   have e1':=hv x (by simp [xsOf])
   rcases ho' with ho' | ho'
   ·injection ho' with q1 q2 q3
    subst q1 q2 q3
    exact evalOp_st' (.inl rfl) (by rw [e1']; exact e1) (by rw [e1']; exact e2) (by rw [e0]; exact e3) e4 e5 (by rw [e1',put_comm hd]; exact hK)
   ·cases ho'
  case storeK key n a x =>
   obtain ⟨n',a',x',k,off,g,t,cs,ho',e1,e2,e3,e4,e5,hK⟩:=evalOp_st rfl hK
   have e0:=ev_put (v:=u) (ρ:=ρ) h a (by simp [xsOf])
   have e1':=hv x (by simp [xsOf])
   rcases ho' with ho' | ho'
   ·cases ho'
   ·injection ho' with q0 q1 q2 q3
    subst q0 q1 q2 q3
    exact evalOp_st' (.inr rfl) (by rw [e1']; exact e1) (by rw [e1']; exact e2) (by rw [e0]; exact e3) e4 e5 (by rw [e1',put_comm hd]; exact hK)
def stFree:SOp → SOp → Bool
 | .build _ _,_ => true
 | .mkfn _ _ _,_ => true
 | .loadK k _ _ _,.storeK k' _ _ _ => match Nat.beq k k' with | true => false | false => true
 | x,_ => pureD x
theorem stFree_simple {x y:SOp} (h:stFree x y = true):simpleD x = true:=by
 unfold stFree at h
 split at h
 ·rfl
 ·rfl
 ·rfl
 ·exact pure_simple h
theorem outV_conc {x y:SOp} {k n:Nat} {a z:X} {L L':Loc} {V:SV → Prop} (h:stFree x y = true) (hy:y = .storeD n a z ∨ y = .storeK k n a z) (hc:∀ sv,conc L' sv = conc L sv) (hg:∀ j,j ≠ k → L'.get j = L.get j) (hK:outV x F L ρ V):outV x F L' ρ V:=by
 unfold stFree at h
 split at h
 ·rename_i zs ps
  have e:=built_alike (ps:=ps) (zs:=zs) (L:=L) (L':=L') (ρ:=ρ) (ρ':=ρ) (fun p _ => hc _)
  simp only [outV,e] at hK ⊢
  exact hK
 ·rename_i f a b
  have e1:=evals_alike (xs:=a) (L:=L) (L':=L') (ρ:=ρ) (ρ':=ρ) (fun _ _ => hc _)
  have e2:=evals_alike (xs:=b) (L:=L) (L':=L') (ρ:=ρ) (ρ':=ρ) (fun _ _ => hc _)
  simp only [outV,e1,e2] at hK ⊢
  exact hK
 ·rename_i k1 ag m x k2 m2 a2 x2
  rcases hy with hy | hy
  ·cases hy
  ·injection hy with q0 q1 q2 q3
   subst q0
   split at h
   ·cases h
   ·rename_i hb
    have hb:=beq_f hb
    simp only [outV] at hK ⊢
    split at hK
    ·rename_i k3 off e
     split at hK
     ·rename_i e0
      have e0:=Nat.eq_of_beq_eq_true e0
      subst e0
      simp only [hg _ hb]
      exact hK
     ·exact hK.elim
    ·exact hK.elim
 ·exact outV_pure h hK
theorem conc_set {L:Loc} {k g:Nat} {t:TypeId} {cs cs':List Value} (hk:L.get k = some (.box g t cs)) (sv:SV):conc (L.set k (.box g t cs')) sv = conc L sv:=by
 cases sv with
 | v u => rfl
 | el a j => rfl
 | own j off =>
  simp only [conc,Loc.get_set]
  by_cases e:j = k
  ·subst e; rw [if_pos rfl,hk]
  ·rw [if_neg e]
def clsOk (x y:SOp):Bool:=(simpleD x && okD0 y && (!rdR? x || simpleD y)) || (callD? x && allocD? y) || (appD? x && allocD? y) || (allocD? x && allocD? y) || (stFree x y && storeD? y) || (storeD? x && stFree y x)
inductive Made:SOp → Option Nat → Frz → Loc → Env → Frz → Loc → SV → Prop
 | box {t:TypeId} {x:X} {k:Nat} {F:Frz} {L:Loc} {ρ:Env} (g:Nat):Made (.boxD t x) (some k) F L ρ F (L.set k (.box g t (vcells (val L ρ x)))) (.own k 0)
 | alloc {t:TypeId} {zs:List Value} {k:Nat} {F:Frz} {L:Loc} {ρ:Env} (g:Nat):Made (.allocD t zs) (some k) F L ρ F (L.set k (.box g t zs)) (.own k 0)
 | mkS {e:TypeId} {sz n:Nat} {zs:List Value} {k:Nat} {F:Frz} {L:Loc} {ρ:Env} (g:Nat):Made (.makeSD e sz n zs) (some k) F L ρ F (L.set k (.row (.slice (some ⟨g,0,none⟩) n n) e sz n (List.replicate n zs).flatten)) (.v (.slice (some ⟨g,0,none⟩) n n))
 | mkF {e:TypeId} {n sz:Nat} {xs:List X} {d:Option Nat} {F:Frz} {L:Loc} {ρ:Env} (g:Nat) (F':Frz) (hle:F.le F') (hg:F' g = some (.cells (cellsOf L ρ xs).toArray e (0,0))) :
   Made (.mkFD e n sz xs) d F L ρ F' L (.v (.slice (some ⟨g,0,none⟩) n n))
def canMake:SOp → Option Nat → Loc → Env → Bool
 | .boxD _ _,some k,L,_ => (L.get k).isNone
 | .allocD _ _,some k,L,_ => (L.get k).isNone
 | .makeSD _ sz n zs,some k,L,_ => match L.get k,len? zs sz,Nat.ble n 9223372036854775807 with | none,true,true => true | _,_,_ => false
 | .mkFD _ _ sz xs,_,L,ρ => parts? L ρ sz xs
 | _,_,_,_ => false
theorem evalOp_alloc {o:SOp} (h:allocD? o = true) {d:Option Nat}:evalOp P o d F L ρ K ↔ canMake o d L ρ = true ∧ ∀ F' L' v,Made o d F L ρ F' L' v → Real F' L' → K F' L' (put d v ρ):=by
 cases o <;> first | (exfalso; revert h; simp [allocD?]; done) | skip
 case boxD t x =>
  simp only [evalOp]
  cases d with
  | none => simp [canMake]
  | some k =>
   simp only [canMake]
   cases hk:L.get k with
   | none =>
    simp only [Option.isNone_none,true_and]
    constructor
    ·rintro h F' L' v hm hr
     cases hm with
     | box g => exact h g hr
    ·intro h g hr
     exact h _ _ _ (.box g) hr
   | some p => simp
 case allocD t zs =>
  simp only [evalOp]
  cases d with
  | none => simp [canMake]
  | some k =>
   simp only [canMake]
   cases hk:L.get k with
   | none =>
    simp only [Option.isNone_none,true_and]
    constructor
    ·rintro h F' L' v hm hr
     cases hm with
     | alloc g => exact h g hr
    ·intro h g hr
     exact h _ _ _ (.alloc g) hr
   | some p => simp
 case makeSD e sz n zs =>
  simp only [evalOp]
  cases d with
  | none => simp [canMake]
  | some k =>
   simp only [canMake]
   cases hk:L.get k with
   | some p => simp
   | none =>
    cases h1:len? zs sz with
    | false => simp
    | true =>
     cases h2:Nat.ble n 9223372036854775807 with
     | false => simp
     | true =>
      simp only [true_and]
      constructor
      ·rintro h F' L' v hm hr
       cases hm with
       | mkS g => exact h g hr
      ·intro h g hr
       exact h _ _ _ (.mkS g) hr
 case mkFD e n sz xs =>
  simp only [evalOp,canMake]
  cases hp:parts? L ρ sz xs with
  | false => simp
  | true =>
   simp only [true_and]
   constructor
   ·rintro h F' L' v hm hr
    cases hm with
    | mkF g F' hle hg => exact h g _ hle hg hr
   ·intro h g F' hle hg hr
    exact h _ _ _ (.mkF g F' hle hg) hr
theorem len?_of:∀ {l:List Value} {n:Nat},l.length = n → len? l n = true
 | [],0,_ => rfl
 | _ :: l,n + 1,h => len?_of (l:=l) (by simpa using h)
theorem canMakeS {e:TypeId} {sz n k:Nat} {zs:List Value} (h:canMake (.makeSD e sz n zs) (some k) L ρ = true):L.get k = none ∧ zs.length = sz ∧ n ≤ maxLen:=by
 simp only [canMake] at h
 split at h
 ·rename_i h1 h2 h3
  exact ⟨h1,len?_eq h2,Nat.le_of_ble_eq_true h3⟩
 ·cases h
theorem made_some {o:SOp} {d:Option Nat} (hr:Real F L) (hc:canMake o d L ρ = true):∃ F' L' v,Made o d F L ρ F' L' v ∧ F.le F' ∧ Real F' L':=by
 obtain ⟨w,hs⟩:=hr
 have frzn:∀ (e:TypeId) (cs:List Value),∃ F',F.le F' ∧ F' w.heap.size = some (.cells cs.toArray e (0,0)) ∧ Real F' L:=by
  intro e cs
  have hnew:=heap_new w (.cells cs.toArray e)
  obtain ⟨hf,hno⟩:=new_free hs
  exact ⟨_,Frz.le_add (hs.alloc (.cells cs.toArray e)) hnew,if_pos rfl,⟨_,(hs.alloc (.cells cs.toArray e)).freeze hnew hno⟩⟩
 cases o <;> cases d <;> simp only [canMake] at hc <;> try (cases hc; done)
 ·rename_i t x k
  rw [Option.isNone_iff_eq_none] at hc
  refine ⟨_,_,_,.box w.heap.size,Frz.le_refl F,⟨_,(alloc_ownO hs hc (ob:=boxObj t (vcells (val L ρ x))) (e:=.box w.heap.size t (vcells (val L ρ x))) rfl ?_).1⟩⟩
  show _ = _
  rw [heap_new]
 ·rename_i t zs k
  rw [Option.isNone_iff_eq_none] at hc
  refine ⟨_,_,_,.alloc w.heap.size,Frz.le_refl F,⟨_,(alloc_ownO hs hc (ob:=boxObj t zs) (e:=.box w.heap.size t zs) rfl ?_).1⟩⟩
  show _ = _
  rw [heap_new]
 ·rename_i e n sz xs
  obtain ⟨F',h1,h2,h3⟩:=frzn e (cellsOf L ρ xs)
  exact ⟨F',L,_,.mkF w.heap.size F' h1 h2,h1,h3⟩
 ·rename_i e n sz xs k
  obtain ⟨F',h1,h2,h3⟩:=frzn e (cellsOf L ρ xs)
  exact ⟨F',L,_,.mkF w.heap.size F' h1 h2,h1,h3⟩
 ·rename_i e sz n zs k
  obtain ⟨hk,hl,hm⟩:=canMakeS (ρ:=ρ) (e:=e) hc
  have hrow:=ownsRow_lit' w (List.replicate n zs).flatten e n sz hm (by rw [List.length_flatten]; simp [hl])
  refine ⟨_,_,_,.mkS w.heap.size,Frz.le_refl F,⟨_,(alloc_own hs hk (cs:=((List.replicate n zs).flatten).toArray) (t:=e) (e:=.row (.slice (some ⟨w.heap.size,0,none⟩) n n) e sz n (List.replicate n zs).flatten) rfl hrow).1⟩⟩
theorem Made.le {o:SOp} {d:Option Nat} {F':Frz} {L':Loc} {v:SV} (h:Made o d F L ρ F' L' v):F.le F':=by
 cases h with
 | box g => exact Frz.le_refl _
 | alloc g => exact Frz.le_refl _
 | mkS g => exact Frz.le_refl _
 | mkF g F' hle hg => exact hle
theorem Made.part {o:SOp} {d:Option Nat} {F':Frz} {L':Loc} {v:SV} (hc:canMake o d L ρ = true) (h:Made o d F L ρ F' L' v):L'.part L:=by
 intro j p e
 cases h with
 | box g =>
  simp only [canMake,Option.isNone_iff_eq_none] at hc
  rw [get_set_ne (fun h => by rw [h] at e; rw [hc] at e; cases e)]; exact e
 | alloc g =>
  simp only [canMake,Option.isNone_iff_eq_none] at hc
  rw [get_set_ne (fun h => by rw [h] at e; rw [hc] at e; cases e)]; exact e
 | mkS g =>
  have hc:=(canMakeS hc).1
  rw [get_set_ne (fun h => by rw [h] at e; rw [hc] at e; cases e)]; exact e
 | mkF g F' hle hg => exact e
theorem Made.get {o:SOp} {d:Option Nat} {F':Frz} {L':Loc} {v:SV} (hc:canMake o d L ρ = true) (h:Made o d F L ρ F' L' v):Keeps L L':=by
 cases h with
 | box g =>
  simp only [canMake,Option.isNone_iff_eq_none] at hc
  exact Keeps.new hc
 | alloc g =>
  simp only [canMake,Option.isNone_iff_eq_none] at hc
  exact Keeps.new hc
 | mkS g => exact Keeps.new (canMakeS hc).1
 | mkF g F' hle hg => exact Keeps.refl _
theorem Made.frame {o:SOp} {d:Option Nat} {F':Frz} {L':Loc} {v:SV} (h:Made o d F L ρ F' L' v):∀ j,d ≠ some j → L'.get j = L.get j:=by
 intro j hj
 cases h with
 | box g => exact get_set_ne (fun e => hj (by rw [e]))
 | alloc g => exact get_set_ne (fun e => hj (by rw [e]))
 | mkS g => exact get_set_ne (fun e => hj (by rw [e]))
 | mkF g F' hle hg => rfl
theorem canMake_like {o:SOp} {d:Option Nat} {L L':Loc} {ρ ρ':Env} (hv:∀ x ∈ xsOf o,val L' ρ' x = val L ρ x) (hk:∀ k,d = some k → (L'.get k = none → L.get k = none)) (h:canMake o d L' ρ' = true):canMake o d L ρ = true:=by
 cases o <;> cases d <;> simp only [canMake] at h ⊢ <;> try (cases h; done)
 ·rename_i t x k
  rw [Option.isNone_iff_eq_none] at h ⊢
  exact hk k rfl h
 ·rename_i t zs k
  rw [Option.isNone_iff_eq_none] at h ⊢
  exact hk k rfl h
 ·rename_i e n sz xs
  rw [← parts_alike (xs:=xs) hv]; exact h
 ·rename_i e n sz xs k
  rw [← parts_alike (xs:=xs) hv]; exact h
 ·rename_i e sz n zs k
  obtain ⟨h1,h2,h3⟩:=canMakeS (L:=L') (ρ:=ρ') (e:=e) h
  have h3:Nat.ble n 9223372036854775807 = true:=Nat.ble_eq_true_of_le h3
  rw [hk k rfl h1,len?_of h2,h3]
theorem Made.like {o:SOp} {d:Option Nat} {ρ ρ':Env} {F':Frz} {L':Loc} {v:SV} (hv:∀ x ∈ xsOf o,val L ρ' x = val L ρ x) (h:Made o d F L ρ' F' L' v):Made o d F L ρ F' L' v:=by
 cases h with
 | box g => rw [hv _ (by simp [xsOf])]; exact .box g
 | alloc g => exact .alloc g
 | mkS g => exact .mkS g
 | mkF g F' hle hg =>
  rename_i xs
  rw [cellsOf_alike (xs:=xs) hv] at hg
  exact .mkF g F' hle hg
theorem val_up {L L':Loc} {ρ:Env} (hvd:Vd L ρ) (hL:Keeps L L') (x:X):val L' ρ x = val L ρ x:=by
 simp only [val]
 cases e:ev ρ x with
 | v u => rfl
 | el a j => rfl
 | own k off =>
  obtain ⟨g,ty,cs,h⟩:=hvd.ev e
  simp only [conc,hL k g ty cs h,h]
theorem val_put {l:List X} {d:Option Nat} {v:SV} (h:∀ k,d = some k → k ∉ slotsX l):∀ x ∈ l,val L (put d v ρ) x = val L ρ x:=fun x hx => by simp only [val,ev_put h x hx]
theorem made_swap {x y:SOp} {dx dy:Option Nat} {F1 F2:Frz} {L1 L2:Loc} {v1 v2:SV} (hcx:canMake x dx L ρ = true) (hcy:canMake y dy L ρ = true) (hxy:∀ k,dx = some k → k ∉ slotsX (xsOf y)) (hyx:∀ k,dy = some k → k ∉ slotsX (xsOf x))
  (hdd:∀ k,dx = some k → dy ≠ some k) (hvd:Vd L ρ) (h1:Made y dy F L ρ F1 L1 v1) (h2:Made x dx F1 L1 (put dy v1 ρ) F2 L2 v2) :
  ∃ Fa La,Made x dx F L ρ Fa La v2 ∧ Made y dy Fa La (put dx v2 ρ) F2 L2 v1:=by
 have ux:∀ z ∈ xsOf x,val L1 (put dy v1 ρ) z = val L ρ z:=fun z hz => by
  rw [val_put hyx z hz,val_up hvd (h1.get hcy)]
 cases h2 with
 | box g2 =>
  rw [ux _ (by simp [xsOf])]
  rename_i t z k
  have fresh:∀ {o:Own},Keeps L (L.set k o):=by
   simp only [canMake,Option.isNone_iff_eq_none] at hcx
   exact Keeps.new hcx
  cases h1 with
  | box g1 =>
   rename_i t' z' k'
   refine ⟨F,_,.box g2,?_⟩
   rw [set_comm L _ _ (fun e => hdd k rfl (by rw [e]))]
   have e:val (L.set k (.box g2 t (vcells (val L ρ z)))) (put (some k) (.own k 0) ρ) z' = val L ρ z':=by
    rw [val_put hxy z' (by simp [xsOf]),val_up hvd (fresh)]
   rw [← e]
   exact .box g1
  | alloc g1 =>
   rename_i t' zs' k'
   refine ⟨F,_,.box g2,?_⟩
   rw [set_comm L _ _ (fun e => hdd k rfl (by rw [e]))]
   exact .alloc g1
  | mkS g1 =>
   refine ⟨F,_,.box g2,?_⟩
   rw [set_comm L _ _ (fun e => hdd k rfl (by rw [e]))]
   exact .mkS g1
  | mkF g1 F' hle hg =>
   rename_i e' n' sz' xs'
   refine ⟨F,_,.box g2,.mkF g1 _ hle ?_⟩
   rw [cellsOf_alike (L:=L) (ρ:=ρ) (xs:=xs') (fun u hu => by rw [val_put hxy u (by simpa [xsOf] using hu),val_up hvd fresh])]
   exact hg
 | alloc g2 =>
  rename_i t zs k
  have fresh:∀ {o:Own},Keeps L (L.set k o):=by
   simp only [canMake,Option.isNone_iff_eq_none] at hcx
   exact Keeps.new hcx
  cases h1 with
  | box g1 =>
   rename_i t' z' k'
   refine ⟨F,_,.alloc g2,?_⟩
   rw [set_comm L _ _ (fun e => hdd k rfl (by rw [e]))]
   have e:val (L.set k (.box g2 t zs)) (put (some k) (.own k 0) ρ) z' = val L ρ z':=by
    rw [val_put hxy z' (by simp [xsOf]),val_up hvd (fresh)]
   rw [← e]
   exact .box g1
  | alloc g1 =>
   rename_i t' zs' k'
   refine ⟨F,_,.alloc g2,?_⟩
   rw [set_comm L _ _ (fun e => hdd k rfl (by rw [e]))]
   exact .alloc g1
  | mkS g1 =>
   refine ⟨F,_,.alloc g2,?_⟩
   rw [set_comm L _ _ (fun e => hdd k rfl (by rw [e]))]
   exact .mkS g1
  | mkF g1 F' hle hg =>
   rename_i e' n' sz' xs'
   refine ⟨F,_,.alloc g2,.mkF g1 _ hle ?_⟩
   rw [cellsOf_alike (L:=L) (ρ:=ρ) (xs:=xs') (fun u hu => by rw [val_put hxy u (by simpa [xsOf] using hu),val_up hvd fresh])]
   exact hg
 | mkS g2 =>
  rename_i t sz0 n0 zs k
  have fresh:∀ {o:Own},Keeps L (L.set k o):=by
   exact Keeps.new (canMakeS hcx).1
  cases h1 with
  | box g1 =>
   rename_i t' z' k'
   refine ⟨F,_,.mkS g2,?_⟩
   rw [set_comm L _ _ (fun e => hdd k rfl (by rw [e]))]
   have e:val (L.set k (.row (.slice (some ⟨g2,0,none⟩) n0 n0) t sz0 n0 (List.replicate n0 zs).flatten)) (put (some k) (.v (.slice (some ⟨g2,0,none⟩) n0 n0)) ρ) z' = val L ρ z':=by
    rw [val_put hxy z' (by simp [xsOf]),val_up hvd (fresh)]
   rw [← e]
   exact .box g1
  | alloc g1 =>
   rename_i t' zs' k'
   refine ⟨F,_,.mkS g2,?_⟩
   rw [set_comm L _ _ (fun e => hdd k rfl (by rw [e]))]
   exact .alloc g1
  | mkS g1 =>
   refine ⟨F,_,.mkS g2,?_⟩
   rw [set_comm L _ _ (fun e => hdd k rfl (by rw [e]))]
   exact .mkS g1
  | mkF g1 F' hle hg =>
   rename_i e' n' sz' xs'
   refine ⟨F,_,.mkS g2,.mkF g1 _ hle ?_⟩
   rw [cellsOf_alike (L:=L) (ρ:=ρ) (xs:=xs') (fun u hu => by rw [val_put hxy u (by simpa [xsOf] using hu),val_up hvd fresh])]
   exact hg
 | mkF g2 F' hle hg =>
  rename_i e n sz xs
  have ux':=cellsOf_alike (xs:=xs) ux
  rw [ux'] at hg
  cases h1 with
  | box g1 =>
   rename_i t' z' k'
   refine ⟨F2,L,.mkF g2 _ hle hg,?_⟩
   have e:=val_put (L:=L) (ρ:=ρ) (v:=.v (.slice (some ⟨g2,0,none⟩) n n)) hxy z' (by simp [xsOf])
   rw [← e]
   exact .box g1
  | alloc g1 => exact ⟨F2,L,.mkF g2 _ hle hg,.alloc g1⟩
  | mkS g1 => exact ⟨F2,L,.mkF g2 _ hle hg,.mkS g1⟩
  | mkF g1 F1' hle1 hg1 =>
   rename_i e' n' sz' xs'
   refine ⟨F2,L,.mkF g2 _ (Frz.le_trans hle1 hle) hg,.mkF g1 _ (Frz.le_refl _) ?_⟩
   rw [cellsOf_alike (L:=L) (ρ:=ρ) (xs:=xs') (fun u hu => by rw [val_put hxy u (by simpa [xsOf] using hu)])]
   exact hle _ _ hg1
theorem swapOp {x y:SOp} {dx dy:Option Nat} (hr:Real F L) (hc:clsOk x y = true) (hxy:∀ k,dx = some k → k ∉ slotsX (xsOf y)) (hyx:∀ k,dy = some k → k ∉ slotsX (xsOf x)) (hdd:∀ k,dx = some k → dy ≠ some k)
  (hvd:Vd L ρ) (hK:evalOp P x dx F L ρ (fun F1 L1 ρ1 => evalOp P y dy F1 L1 ρ1 K)):evalOp P y dy F L ρ (fun F1 L1 ρ1 => evalOp P x dx F1 L1 ρ1 K):=by
 have hdd':∀ k,dy = some k → dx ≠ some k:=fun k e e' => hdd k e' e
 simp only [clsOk,Bool.or_eq_true,Bool.and_eq_true] at hc
 rcases hc with ((((⟨⟨hx,hy⟩,hrd⟩ | ⟨hx,hy⟩) | ⟨hx,hy⟩) | ⟨hx,hy⟩) | ⟨hx,hy⟩) | ⟨hx,hy⟩
 ·rw [evalOp_simple hx] at hK
  obtain ⟨v,hT,hK2⟩:=(outV_one hx).ex _ hK
  clear hK
  have later:∀ {F':Frz} {L':Loc} {u:SV},F.le F' → Keeps L L' → K F' L' (put dy u (put dx v ρ)) → (rdR? x = false ∨ L' = L) → evalOp P x dx F' L' (put dy u ρ) K:=by
   intro F' L' u hF hL hk hR
   rw [evalOp_simple hx]
   have hal:Alike x L L' ρ (put dy u ρ):=fun z hz => ⟨ev_put hyx z hz,fun k off e => by
    obtain ⟨g,ty,cs,h⟩:=hvd.ev e
    rw [hL k g ty cs h,h]⟩
   refine (outV_one hx).mono _ _ (fun v' hv' => ?_) (outV_up hx hF hal hT hR)
   subst hv'
   rw [put_comm hdd]
   exact hk
  have hv:=val_put (L:=L) (ρ:=ρ) (v:=v) hxy
  by_cases hys:simpleD y = true
  ·rw [evalOp_simple hys] at hK2 ⊢
   have hal:Alike y L L (put dx v ρ) ρ:=fun z hz => ⟨(ev_put hxy z hz).symm,fun _ _ _ => rfl⟩
   exact (outV_one hys).mono _ _ (fun u hu => later (Frz.le_refl F) (Keeps.refl _) hu (.inr rfl)) (outV_up hys (Frz.le_refl F) hal hK2)
  ·have hnr:rdR? x = false:=by
    rcases hrd with h | h
    ·cases e:rdR? x with
     | false => rfl
     | true => rw [e] at h; cases h
    ·exact absurd h hys
   by_cases hya:allocD? y = true
   ·rw [evalOp_alloc hya] at hK2 ⊢
    obtain ⟨h1,h2⟩:=hK2
    have hcm:canMake y dy L ρ = true:=canMake_like (L':=L) (ρ':=put dx v ρ) hv (fun k _ e => e) h1
    refine ⟨hcm,fun F' L' u hm hr' => later hm.le (hm.get hcm) (h2 F' L' u ?_ hr') (.inl hnr)⟩
    exact hm.like fun z hz => (hv z hz).symm
   ·cases y <;> first | (exfalso; revert hys hya hy; simp [okD0,simpleD,callD?,allocD?,appD?]; done) | skip
    case callD f args =>
     have e1:=evals_alike (xs:=args) hv
     simp only [evalOp,e1] at hK2 ⊢
     exact hK2.imp fun F' L' u hle hl _ h => later hle hl.keeps h (.inl hnr)
    case callVD f args =>
     have e0:=ev_put (v:=v) (ρ:=ρ) hxy f (by simp [xsOf])
     have e1:=evals_alike (xs:=args) (L:=L) (L':=L) (ρ:=ρ) (ρ':=put dx v ρ) (fun z hz => hv z (by simp [xsOf,hz]))
     simp only [evalOp,e0,e1] at hK2 ⊢
     split at hK2
     ·exact hK2.imp fun F' L' u hle hl _ h => later hle hl.keeps h (.inl hnr)
     ·exact hK2.elim
    case appD e sz b zs s z =>
     have e0:=ev_put (v:=v) (ρ:=ρ) hxy s (by simp [xsOf])
     have e1:=ev_put (v:=v) (ρ:=ρ) hxy z (by simp [xsOf])
     simp only [evalOp,e0,e1] at hK2 ⊢
     split at hK2
     ·refine hK2.imp (Frz.le_refl F) fun kd n xs n' xs' u hkd hr' h => later (Frz.le_refl F) ?_ (h hr') (.inl hnr)
      rcases hkd with h | ⟨_,h⟩
      ·exact Keeps.row h
      ·exact Keeps.new h
     ·exact hK2.elim
 ·have call_case:∀ {f:Nat} {args:List Value},CallDPt P f args F L dx (fun F' L' v => evalOp P y dy F' L' (put dx (.v v) ρ) K) →
    canMake y dy L ρ = true ∧ ∀ F' L' u,Made y dy F L ρ F' L' u → CallDPt P f args F' L' dx (fun F2 L2 v => K F2 L2 (put dx (.v v) (put dy u ρ))):=by
   intro f args hC
   have up:∀ {L1:Loc},Left dx L L1 → ∀ {u:SV},∀ z ∈ xsOf y,val L1 (put dx u ρ) z = val L ρ z:=by
    intro L1 hl u z hz
    rw [val_put hxy z hz,val_up hvd hl.keeps]
   have hcm:canMake y dy L ρ = true:=by
    obtain ⟨F',L',v,hle,hl,_,h⟩:=hC.some hr
    rw [evalOp_alloc hy] at h
    refine canMake_like (L':=L') (ρ':=put dx (.v v) ρ) (up hl) (fun k hk e => ?_) h.1
    rcases hl with rfl | ⟨j,o,hj,hn,rfl⟩ | ⟨j,rv,t,sz,n,xs,hj,rfl⟩
    ·exact e
    ·rw [get_set_ne (fun ej => hdd j hj (by rw [← ej]; exact hk))] at e; exact e
    ·rw [Loc.get_set] at e
     split at e
     ·cases e
     ·exact e
   refine ⟨hcm,fun F' L' u hm => (hC.up hm.le hr.glob (hm.part hcm) (fun k hk hn => by rw [hm.frame k (hdd k hk)]; exact hn)).imp fun F2 L2 v hle hlf hr2 h => ?_⟩
   clear hlf
   obtain ⟨h1,hr3,h2⟩:=h
   clear hr3
   rw [put_comm hdd]
   rcases h2 with ⟨rfl,h2⟩ | ⟨k,o,hk,hn,rfl,h2⟩ | ⟨kr,rv,t,sz,n,xs,hkr,rfl,h2⟩
   ·rw [evalOp_alloc hy] at h2
    refine h2.2 F2 L2 u ?_ hr2
    have up2:=up (L1:=L) (.inl rfl) (u:=.v v)
    clear up h2
    cases hm with
    | box g => rw [← up2 _ (by simp [xsOf])]; exact .box g
    | alloc g => exact .alloc g
    | mkS g => exact .mkS g
    | mkF g F' hle2 hg =>
     rename_i xs
     refine .mkF g _ (Frz.le_refl _) ?_
     rw [cellsOf_alike (L:=L) (ρ:=ρ) (xs:=xs) (fun z hz => up2 z (by simpa [xsOf] using hz))]
     exact h1 _ _ hg
   ·rw [evalOp_alloc hy] at h2
    refine h2.2 F2 _ u ?_ hr2
    have up2:=up (L1:=L.set k o) (.inr (.inl ⟨k,o,hk,hn,rfl⟩)) (u:=.v v)
    clear up h2
    cases hm with
    | box g =>
     rw [set_comm L _ _ (fun e => hdd k hk (by rw [e])),← up2 _ (by simp [xsOf])]; exact .box g
    | alloc g =>
     rw [set_comm L _ _ (fun e => hdd k hk (by rw [e]))]; exact .alloc g
    | mkS g =>
     rw [set_comm L _ _ (fun e => hdd k hk (by rw [e]))]; exact .mkS g
    | mkF g F' hle2 hg =>
     rename_i xs
     refine .mkF g _ (Frz.le_refl _) ?_
     rw [cellsOf_alike (L:=L) (ρ:=ρ) (xs:=xs) (fun z hz => up2 z (by simpa [xsOf] using hz))]
     exact h1 _ _ hg
   ·rw [evalOp_alloc hy] at h2
    refine h2.2 F2 _ u ?_ hr2
    have up2:=up (L1:=L.set kr (.row (.slice none 0 0) t sz 0 [])) (.inr (.inr ⟨kr,rv,t,sz,n,xs,hkr,rfl⟩)) (u:=.v v)
    have hne:∀ k,dy = some k → allocD? y = true → canMake y dy L ρ = true → (∀ e n' sz' xs',y ≠ .mkFD e n' sz' xs') → kr ≠ k:=by
     intro k hk _ hc hnm e
     subst hk e
     cases y <;> simp only [canMake,hkr,Option.isNone_some,Bool.false_eq_true] at hc
     exact hnm _ _ _ _ rfl
    clear up h2
    cases hm with
    | box g =>
     rw [set_comm L _ _ (hne _ rfl hy hcm (fun _ _ _ _ => by simp)).symm,← up2 _ (by simp [xsOf])]; exact .box g
    | alloc g =>
     rw [set_comm L _ _ (hne _ rfl hy hcm (fun _ _ _ _ => by simp)).symm]; exact .alloc g
    | mkS g =>
     rw [set_comm L _ _ (hne _ rfl hy hcm (fun _ _ _ _ => by simp)).symm]; exact .mkS g
    | mkF g F' hle2 hg =>
     rename_i xs
     refine .mkF g _ (Frz.le_refl _) ?_
     rw [cellsOf_alike (L:=L) (ρ:=ρ) (xs:=xs) (fun z hz => up2 z (by simpa [xsOf] using hz))]
     exact h1 _ _ hg
  cases x <;> first | (exfalso; revert hx; simp [callD?]; done) | skip
  case callD f args =>
   simp only [evalOp] at hK
   obtain ⟨h1,h2⟩:=call_case hK
   rw [evalOp_alloc hy]
   refine ⟨h1,fun F' L' u hm _ => ?_⟩
   have e1:evals L' (put dy u ρ) args = evals L ρ args:=evals_alike fun z hz => by rw [val_put hyx z (by simpa [xsOf] using hz),val_up hvd (hm.get h1)]
   simp only [evalOp,e1]
   exact h2 F' L' u hm
  case callVD f args =>
   simp only [evalOp] at hK
   split at hK
   case h_2 => exact hK.elim
   rename_i fid fi ca hf
   obtain ⟨h1,h2⟩:=call_case hK
   rw [evalOp_alloc hy]
   refine ⟨h1,fun F' L' u hm _ => ?_⟩
   have e0:=ev_put (v:=u) (ρ:=ρ) hyx f (by simp [xsOf])
   have e1:evals L' (put dy u ρ) args = evals L ρ args:=evals_alike fun z hz => by rw [val_put hyx z (by simp [xsOf,hz]),val_up hvd (hm.get h1)]
   simp only [evalOp,e0,e1,hf]
   exact h2 F' L' u hm
 ·cases x <;> first | (exfalso; revert hx; simp [appD?]; done) | skip
  case appD e sz b zs s z =>
   rw [evalOp_appD] at hK
   split at hK
   case h_2 => exact hK.elim
   rename_i sv xv hsv hxv
   have hcm:canMake y dy L ρ = true:=by
    obtain ⟨kd,v,n',xs',h1,_,h⟩:=hK.some hr
    rw [evalOp_alloc hy] at h
    have hkp:Keeps L (L.set kd (.row v e sz n' xs')):=by
     rcases h1 with ⟨n,xs,h1⟩ | ⟨_,h1⟩
     ·exact Keeps.row h1
     ·exact Keeps.new h1
    refine canMake_like (L':=_) (ρ':=put dx (.v v) ρ) (fun u hu => by rw [val_put hxy u hu,val_up hvd hkp]) (fun k hk e => ?_) h.1
    rw [Loc.get_set] at e
    split at e
    ·cases e
    ·exact e
   rw [evalOp_alloc hy]
   refine ⟨hcm,fun F' L' u hm hrm => ?_⟩
   clear hrm
   have e0:=ev_put (v:=u) (ρ:=ρ) hyx s (by simp [xsOf])
   have e1:=ev_put (v:=u) (ρ:=ρ) hyx z (by simp [xsOf])
   simp only [evalOp,e0,e1,hsv,hxv]
   obtain ⟨kd,n,xs,m,news,h1,⟨ad,c,h2,h3,h4⟩,h5,h6,h7,h8⟩:=hK
   have hkp:∀ {o:Own},Keeps L (L.set kd o):=by
    rcases h1 with h1 | ⟨_,h1,_⟩ | ⟨_,h1,_⟩
    ·exact Keeps.row h1
    ·exact Keeps.new h1
    ·exact Keeps.new h1
   have hne:∀ k,dy = some k → L.get k = none → kd ≠ k:=by
    rintro k hk hn rfl
    rcases h1 with h1 | ⟨h1,_⟩ | ⟨h1,_⟩
    ·rw [hn] at h1; cases h1
    ·exact hdd kd h1 hk
    ·exact hdd kd h1 hk
   refine ⟨kd,n,xs,m,news,?_,⟨ad,c,h2,h3,?_⟩,h5,h6,h7,fun v hv hr2 => ?_⟩
   ·rcases h1 with h1 | ⟨h0,h1,h1'⟩ | ⟨h0,h1,ad,q1,q2,q3,q4⟩
    ·exact .inl (hm.part hcm kd _ h1)
    ·exact .inr (.inl ⟨h0,by rw [hm.frame kd (hdd kd h0)]; exact h1,h1'⟩)
    ·exact .inr (.inr ⟨h0,by rw [hm.frame kd (hdd kd h0)]; exact h1,ad,q1,q2,q3,q4.imp (·.mono hm.le) id⟩)
   ·rcases h4 with h4 | h4
    ·exact .inl (h4.mono hm.le)
    ·exact .inr h4
   ·have h9:=h8 v hv (hr2.down hm.le hr.glob (part_set2 (hm.part hcm)))
    rw [evalOp_alloc hy] at h9
    rw [put_comm hdd]
    refine h9.2 F' _ u ?_ hr2
    have up2:∀ z ∈ xsOf y,val (L.set kd (.row v e sz (n + m) (xs ++ news))) (put dx (.v v) ρ) z = val L ρ z:=fun z hz => by
     rw [val_put hxy z hz,val_up hvd hkp]
    clear h8 h9 hsv hxv e0 e1
    cases hm with
    | box g =>
     rename_i t x k
     simp only [canMake,Option.isNone_iff_eq_none] at hcm
     rw [set_comm L _ _ (fun e => hne k rfl hcm e.symm),← up2 _ (by simp [xsOf])]
     exact .box g
    | alloc g =>
     rename_i t zs k
     simp only [canMake,Option.isNone_iff_eq_none] at hcm
     rw [set_comm L _ _ (fun e => hne k rfl hcm e.symm)]
     exact .alloc g
    | mkS g =>
     rename_i e0 sz0 n0 zs k
     rw [set_comm L _ _ (fun e => hne k rfl (canMakeS hcm).1 e.symm)]
     exact .mkS g
    | mkF g F' hle2 hg =>
     rename_i xs2
     refine .mkF g _ hle2 ?_
     rw [cellsOf_alike (L:=L) (ρ:=ρ) (xs:=xs2) (fun z hz => up2 z (by simpa [xsOf] using hz))]
     exact hg
 ·rw [evalOp_alloc hx] at hK
  obtain ⟨hcx,hK⟩:=hK
  have hcy:canMake y dy L ρ = true:=by
   obtain ⟨F',L',v,hm,hle,hr'⟩:=made_some hr hcx
   have h:=hK F' L' v hm hr'
   rw [evalOp_alloc hy] at h
   refine canMake_like (L':=L') (ρ':=put dx v ρ) (fun z hz => by rw [val_put hxy z hz,val_up hvd (hm.get hcx)]) (fun k hk e => ?_) h.1
   rw [hm.frame k (fun e' => hdd k e' hk)] at e
   exact e
  rw [evalOp_alloc hy]
  refine ⟨hcy,fun F1 L1 v1 hm1 hr1 => ?_⟩
  rw [evalOp_alloc hx]
  refine ⟨canMake_like (L':=L) (ρ':=ρ) (fun z hz => by rw [val_put hyx z hz,val_up hvd (hm1.get hcy)]) (fun k hk e => by rw [hm1.frame k (hdd k hk)]; exact e) hcx,fun F2 L2 v2 hm2 hr2 => ?_⟩
  obtain ⟨Fa,La,ha,hb⟩:=made_swap hcx hcy hxy hyx hdd hvd hm1 hm2
  have hcya:canMake y dy La (put dx v2 ρ) = true :=
   canMake_like (L':=L) (ρ':=ρ) (fun z hz => by rw [val_put hxy z hz,val_up hvd (ha.get hcx)]) (fun k hk e => by rw [ha.frame k (fun e' => hdd k e' hk)]; exact e) hcy
  have hra:Real Fa La:=hr2.down hb.le (hr.glob.mono ha.le) (hb.part hcya)
  have h:=hK Fa La v2 ha hra
  rw [evalOp_alloc hy] at h
  rw [put_comm hdd]
  exact h.2 F2 L2 v1 hb hr2
 ·have hx':=stFree_simple hx
  rw [evalOp_simple hx'] at hK
  obtain ⟨v,hT,hK2⟩:=(outV_one hx').ex _ hK
  clear hK
  obtain ⟨n,a,z,k,off,g,t,cs,ho,e1,e2,e3,e4,e5,hK⟩:=evalOp_st hy hK2
  have ha:a ∈ xsOf y:=by rcases ho with rfl | rfl <;> simp [xsOf]
  have hz:z ∈ xsOf y:=by rcases ho with rfl | rfl <;> simp [xsOf]
  have q0:=ev_put (v:=v) (ρ:=ρ) hxy a ha
  have q1:=val_put (L:=L) (v:=v) (ρ:=ρ) hxy z hz
  rw [q0] at e3
  rw [q1] at e1 e2 hK
  refine evalOp_st' ho e1 e2 e3 e4 e5 ?_
  have h3:=(outV_one hx').mono _ (fun u => K F _ (put dx u (put dy (.v undef) ρ))) (fun u hu => by subst hu; rw [put_comm hdd]; exact hK)
   (outV_up hx' (Frz.le_refl F) (alike_env (L:=L) (ρ:=ρ) (v:=.v undef) hyx) hT)
  rw [evalOp_simple hx']
  exact outV_conc hx ho (conc_set e4) (fun j hj => get_set_ne hj) h3
 ·have hy':=stFree_simple hy
  obtain ⟨n,a,z,k,off,g,t,cs,ho,e1,e2,e3,e4,e5,hK⟩:=evalOp_st hx hK
  have ha:a ∈ xsOf x:=by rcases ho with rfl | rfl <;> simp [xsOf]
  have hz:z ∈ xsOf x:=by rcases ho with rfl | rfl <;> simp [xsOf]
  rw [evalOp_simple hy'] at hK
  obtain ⟨v,hT,hK⟩:=(outV_one hy').ex _ hK
  have hT:=outV_conc (L':=L) hy ho (fun sv => (conc_set e4 sv).symm) (fun j hj => (get_set_ne hj).symm) hT
  have hal:Alike y L L (put dx (.v undef) ρ) ρ:=fun u hu => ⟨(ev_put hxy u hu).symm,fun _ _ _ => rfl⟩
  have hT:=outV_up hy' (Frz.le_refl F) hal hT
  rw [evalOp_simple hy']
  refine (outV_one hy').mono _ _ (fun u hu => ?_) hT
  subst hu
  have q0:=ev_put (v:=u) (ρ:=ρ) hyx a ha
  have q1:=val_put (L:=L) (v:=u) (ρ:=ρ) hyx z hz
  refine evalOp_st' ho (by rw [q1]; exact e1) (by rw [q1]; exact e2) (by rw [q0]; exact e3) e4 e5 ?_
  rw [q1,put_comm hdd]
  exact hK
end
section
variable {P:Program} {F:Frz} {L:Loc} {ρ:Env} {K K':Kont}
theorem Left.none {d:Option Nat} {L L':Loc} (h:Left d L L') {j:Nat} (hj:d ≠ some j) (e:L.get j = none):L'.get j = none:=by
 rcases h with rfl | ⟨k,o,hd,hk,rfl⟩ | ⟨k,rv,t,sz,n,xs,hk,rfl⟩
 ·exact e
 ·rw [get_set_ne (fun ej => hj (by rw [ej]; exact hd))]; exact e
 ·rw [get_set_ne (fun ej => by rw [ej,hk] at e; cases e)]; exact e
theorem evalOp_shapeN {o:SOp} (ho:okD o = true) {d:Option Nat} (hr:Real F L) (hvd:Vd L ρ) (hK:evalOp P o d F L ρ K)
  (hk:∀ F1 L1 ρ1,(∃ v,ρ1 = put d v ρ) → F.le F1 → Real F1 L1 → Vd L1 ρ1 → (∀ j,d ≠ some j → L.get j = none → L1.get j = none) → K F1 L1 ρ1 → K' F1 L1 ρ1):evalOp P o d F L ρ K':=by
 have vdput:∀ {L1:Loc} {v:SV},Keeps L L1 → (∀ k off,v = .own k off → ∃ g ty cs,L1.get k = some (.box g ty cs)) → Vd L1 (put d v ρ):=by
  intro L1 v hL hv t k off e
  have old:ρ t = .own k off → ∃ g ty cs,L1.get k = some (.box g ty cs):=fun e => by
   obtain ⟨g,ty,cs,h⟩:=hvd t k off e
   exact ⟨g,ty,cs,hL k g ty cs h⟩
  rw [put_eq] at e
  cases d with
  | none => exact old e
  | some k' =>
   simp only [] at e
   split at e
   ·exact hv k off e
   ·exact old e
 by_cases hs:simpleD o = true
 ·rw [evalOp_simple hs] at hK ⊢
  obtain ⟨v,hT,hv⟩:=(outV_one hs).ex _ hK
  refine (outV_one hs).mono _ _ (fun u hu => ?_) hT
  subst hu
  refine hk _ _ _ ⟨_,rfl⟩ (Frz.le_refl F) hr (vdput (Keeps.refl L) fun k off e => ?_) (fun _ _ h => h) hv
  subst e
  obtain ⟨x,_,off',hx⟩:=outV_own hs hT
  exact hvd.ev hx
 ·by_cases ha:allocD? o = true
  ·rw [evalOp_alloc ha] at hK ⊢
   refine ⟨hK.1,fun F' L' v hm hr' => hk _ _ _ ⟨v,rfl⟩ hm.le hr' (vdput (hm.get hK.1) fun k off e => ?_) (fun j hj e => by rw [hm.frame j hj]; exact e) (hK.2 F' L' v hm hr')⟩
   cases hm with
   | box g => injection e with e1 e2; subst e1; exact ⟨_,_,_,by rw [Loc.get_set,if_pos rfl]⟩
   | alloc g => injection e with e1 e2; subst e1; exact ⟨_,_,_,by rw [Loc.get_set,if_pos rfl]⟩
   | mkS g => cases e
   | mkF g F' hle hg => cases e
  ·cases o <;> first | (exfalso; revert hs ha ho; simp [okD,okD0,simpleD,callD?,allocD?,appD?,storeD?]; done) | skip
   case callD f args =>
    simp only [evalOp] at hK ⊢
    exact hK.imp fun F' L' v hle hl hr' h => hk _ _ _ ⟨_,rfl⟩ hle hr' (vdput hl.keeps fun k off e => by cases e) (fun j hj e => hl.none hj e) h
   case callVD f args =>
    simp only [evalOp] at hK ⊢
    split at hK
    ·exact hK.imp fun F' L' v hle hl hr' h => hk _ _ _ ⟨_,rfl⟩ hle hr' (vdput hl.keeps fun k off e => by cases e) (fun j hj e => hl.none hj e) h
    ·exact hK.elim
   case appD e sz b zs s z =>
    simp only [evalOp] at hK ⊢
    split at hK
    ·refine hK.imp (Frz.le_refl F) fun kd n xs n' xs' u hkd hr' h => hk _ _ _ ⟨_,rfl⟩ (Frz.le_refl F) hr' (vdput ?_ fun k off e => by cases e) ?_ (h hr')
     ·rcases hkd with h | ⟨_,h⟩
      ·exact Keeps.row h
      ·exact Keeps.new h
     ·intro j hj e
      have hne:j ≠ kd:=by
       rintro rfl
       rcases hkd with h | ⟨h,_⟩
       ·rw [e] at h; cases h
       ·exact hj h
      rw [get_set_ne hne]; exact e
    ·exact hK.elim
   all_goals
    obtain ⟨n',a',x',k,off,g,ty,cs,ho',e1,e2,e3,e4,e5,hK⟩:=evalOp_st rfl hK
    refine evalOp_st' ho' e1 e2 e3 e4 e5 (hk _ _ _ ⟨_,rfl⟩ (Frz.le_refl F) (Real.store (memB_ne e5) hr e4) ?_ (fun j _ e => by rw [get_set_ne (fun ej => by rw [ej,e4] at e; cases e)]; exact e) hK)
    intro t k' off' e
    have old:ρ t = .own k' off' → ∃ g' ty' cs',Loc.get (L.set k (.box g ty (splice cs off (vcells (val L ρ x'))))) k' = some (.box g' ty' cs'):=fun e => by
     obtain ⟨g',ty',cs',h⟩:=hvd t k' off' e
     rw [Loc.get_set]
     split
     ·exact ⟨_,_,_,rfl⟩
     ·exact ⟨_,_,_,h⟩
    rw [put_eq] at e
    cases d with
    | none => exact old e
    | some k' =>
     simp only [] at e
     split at e
     ·cases e
     ·exact old e
theorem evalOp_shape {o:SOp} (ho:okD o = true) {d:Option Nat} (hr:Real F L) (hvd:Vd L ρ) (hK:evalOp P o d F L ρ K)
  (hk:∀ F1 L1 ρ1,(∃ v,ρ1 = put d v ρ) → F.le F1 → Real F1 L1 → Vd L1 ρ1 → K F1 L1 ρ1 → K' F1 L1 ρ1):evalOp P o d F L ρ K' :=
 evalOp_shapeN ho hr hvd hK fun F1 L1 ρ1 h1 h2 h3 h4 _ h5 => hk F1 L1 ρ1 h1 h2 h3 h4 h5
theorem evalOp_some {o:SOp} (ho:okD o = true) {d:Option Nat} (hr:Real F L) (hK:evalOp P o d F L ρ K):∃ v F1 L1,K F1 L1 (put d v ρ):=by
 by_cases hs:simpleD o = true
 ·rw [evalOp_simple hs] at hK
  obtain ⟨v,_,hv⟩:=(outV_one hs).ex _ hK
  exact ⟨v,F,L,hv⟩
 ·by_cases ha:allocD? o = true
  ·rw [evalOp_alloc ha] at hK
   obtain ⟨F',L',v,hm,_,hr'⟩:=made_some hr hK.1
   exact ⟨v,F',L',hK.2 F' L' v hm hr'⟩
  ·cases o <;> first | (exfalso; revert hs ha ho; simp [okD,okD0,simpleD,callD?,allocD?,appD?,storeD?]; done) | skip
   case callD f args =>
    simp only [evalOp] at hK
    obtain ⟨F',L',v,_,_,_,h⟩:=hK.some hr
    exact ⟨_,F',L',h⟩
   case callVD f args =>
    simp only [evalOp] at hK
    split at hK
    ·obtain ⟨F',L',v,_,_,_,h⟩:=hK.some hr
     exact ⟨_,F',L',h⟩
    ·exact hK.elim
   case appD e sz b zs s z =>
    simp only [evalOp] at hK
    split at hK
    ·obtain ⟨kd,v,n',xs',_,_,h⟩:=hK.some hr
     exact ⟨_,F,_,h⟩
    ·exact hK.elim
   all_goals
    obtain ⟨n',a',x',k,off,g,ty,cs,ho',e1,e2,e3,e4,e5,hK⟩:=evalOp_st rfl hK
    exact ⟨_,F,_,hK⟩
def skipOp:SOp:=.mov (.c undef)
def res (g:Option (Nat × Bool)) (ρ:Env) (o:SOp):Option SOp :=
 match g with
 | none => some o
 | some (s,want) => match ρ s with
  | .v (.bool b) => some (if b = want then o else skipOp)
  | .v (.tuple _) => some skipOp
  | _ => none
theorem evalOps_cons {d:Option Nat} {o:SOp} {g:Option (Nat × Bool)} {rest:List SStep} :
  evalOps P (.op d o g :: rest) F L ρ K ↔ ∃ o',res g ρ o = some o' ∧ evalOp P o' d F L ρ (fun F1 L1 ρ1 => evalOps P rest F1 L1 ρ1 K):=by
 cases g with
 | none => simp only [evalOps,res,Option.some.injEq,exists_eq_left']
 | some p =>
  obtain ⟨s,want⟩:=p
  simp only [evalOps,res]
  cases e:ρ s with
  | own k off => simp
  | el a j => simp
  | v u =>
   cases u <;> simp only [Option.some.injEq,exists_eq_left',reduceCtorEq,false_and,exists_false]
   case bool b =>
    cases b <;> cases want <;> simp [brn,put_same e,skipOp,evalOp,outV,ev]
   case tuple vs => rfl
def looks (o:SOp) (g:Option (Nat × Bool)):List Nat :=
 match g with
 | none => slotsX (xsOf o)
 | some (s,_) => s :: slotsX (xsOf o)
def optNot (d:Option Nat) (l:List Nat):Bool :=
 match d with
 | none => true
 | some k => match mem? l k with | true => false | false => true
def optNe:Option Nat → Option Nat → Bool
 | some a,some b => match Nat.beq a b with | true => false | false => true
 | _,_ => true
def pairOk:SStep → SStep → Bool
 | .op dx x gx,.op dy y gy => okD x && okD y && clsOk x y && optNot dx (looks y gy) && optNot dy (looks x gx) && optNe dx dy
 | _,_ => false
theorem optNot_eq {d:Option Nat} {l:List Nat} (h:optNot d l = true):∀ k,d = some k → k ∉ l:=by
 rintro k rfl hk
 simp only [optNot,mem?_eq.2 hk] at h
 cases h
theorem optNe_eq {d d':Option Nat} (h:optNe d d' = true):∀ k,d = some k → d' ≠ some k:=by
 rintro k rfl e
 subst e
 simp [optNe] at h
theorem res_put {g:Option (Nat × Bool)} {o:SOp} {d:Option Nat} {v:SV} (h:∀ k,d = some k → k ∉ looks o g):res g (put d v ρ) o = res g ρ o:=by
 cases g with
 | none => rfl
 | some p =>
  obtain ⟨s,want⟩:=p
  have:put d v ρ s = ρ s:=by
   rw [put_eq]
   cases d with
   | none => rfl
   | some k =>
    simp only []
    rw [if_neg]
    intro e
    exact h k rfl (by simp [looks,e])
  simp only [res,this]
theorem res_cases {g:Option (Nat × Bool)} {o o':SOp} (h:res g ρ o = some o'):o' = o ∨ o' = skipOp:=by
 cases g with
 | none => simp only [res,Option.some.injEq] at h; exact .inl h.symm
 | some p =>
  obtain ⟨s,want⟩:=p
  simp only [res] at h
  split at h
  ·injection h with h
   split at h
   ·exact .inl h.symm
   ·exact .inr h.symm
  ·injection h with h; exact .inr h.symm
  ·cases h
theorem looks_sub {o:SOp} {g:Option (Nat × Bool)} {k:Nat} (h:k ∈ slotsX (xsOf o)):k ∈ looks o g:=by
 cases g with
 | none => exact h
 | some p => exact List.mem_cons_of_mem _ h
theorem swapStep {x y:SStep} {rest:List SStep} (hp:pairOk x y = true) (hr:Real F L) (hvd:Vd L ρ) (h:evalOps P (x :: y :: rest) F L ρ K):evalOps P (y :: x :: rest) F L ρ K:=by
 cases x with
 | frz k => exact absurd hp (by cases y <;> exact Bool.false_ne_true)
 | pc d o g => exact absurd hp (by cases y <;> exact Bool.false_ne_true)
 | op dx x gx =>
  cases y with
  | frz k => exact absurd hp Bool.false_ne_true
  | pc d o g => exact absurd hp Bool.false_ne_true
  | op dy y gy =>
   simp only [pairOk,Bool.and_eq_true] at hp
   obtain ⟨⟨⟨⟨⟨okx,oky⟩,hc⟩,h1⟩,h2⟩,h3⟩:=hp
   have h1:=optNot_eq h1
   have h2:=optNot_eq h2
   have h3:=optNe_eq h3
   have h3':∀ k,dy = some k → dx ≠ some k:=fun k e e' => h3 k e' e
   rw [evalOps_cons] at h
   obtain ⟨x',hx',h⟩:=h
   have okskip:okD skipOp = true:=rfl
   have okx':okD x' = true:=by rcases res_cases hx' with rfl | rfl; exact okx; exact okskip
   -- y's guard
   have hy:∃ y',res gy ρ y = some y':=by
    obtain ⟨v,F1,L1,hk⟩:=evalOp_some okx' hr h
    rw [evalOps_cons] at hk
    obtain ⟨y',hy',_⟩:=hk
    rw [res_put h1] at hy'
    exact ⟨y',hy'⟩
   obtain ⟨y',hy'⟩:=hy
   have oky':okD y' = true:=by rcases res_cases hy' with rfl | rfl; exact oky; exact okskip
   have hA:evalOp P x' dx F L ρ (fun F1 L1 ρ1 => evalOp P y' dy F1 L1 ρ1 (fun F2 L2 ρ2 => evalOps P rest F2 L2 ρ2 K)):=by
    refine evalOp_shape okx' hr hvd h ?_
    rintro F1 L1 ρ1 ⟨v,rfl⟩ _ _ _ hk
    rw [evalOps_cons] at hk
    obtain ⟨y'',hy'',hk⟩:=hk
    rw [res_put h1,hy'] at hy''
    injection hy'' with hy''
    subst hy''
    exact hk
   have lx:∀ k,dy = some k → k ∉ slotsX (xsOf x'):=by
    intro k e hk
    rcases res_cases hx' with rfl | rfl
    ·exact h2 k e (looks_sub hk)
    ·simp [skipOp,xsOf,slotsX] at hk
   have ly:∀ k,dx = some k → k ∉ slotsX (xsOf y'):=by
    intro k e hk
    rcases res_cases hy' with rfl | rfl
    ·exact h1 k e (looks_sub hk)
    ·simp [skipOp,xsOf,slotsX] at hk
   have hB:evalOp P y' dy F L ρ (fun F1 L1 ρ1 => evalOp P x' dx F1 L1 ρ1 (fun F2 L2 ρ2 => evalOps P rest F2 L2 ρ2 K)):=by
    by_cases hskip:y' = skipOp
    ·subst hskip
     simp only [skipOp,evalOp,outV,ev]
     exact evalOp_env (K:=fun F2 L2 ρ2 => evalOps P rest F2 L2 ρ2 K) (u:=.v undef) okx' lx h3 hA
    ·have ey:y' = y:=by rcases res_cases hy' with h | h; exact h; exact absurd h hskip
     subst ey
     refine swapOp hr ?_ ly lx h3 hvd hA
     rcases res_cases hx' with rfl | rfl
     ·exact hc
     ·simp only [okD,Bool.or_eq_true] at oky
      rcases oky with oky | oky
      ·simp only [clsOk,oky,Bool.and_true,Bool.or_eq_true]; exact .inl (.inl (.inl (.inl (.inl (by rfl)))))
      ·simp only [clsOk,oky,Bool.and_true,Bool.or_eq_true]; exact .inl (.inr rfl)
   rw [evalOps_cons]
   refine ⟨y',hy',evalOp_shape oky' hr hvd hB ?_⟩
   rintro F1 L1 ρ1 ⟨v,rfl⟩ _ _ _ hk
   rw [evalOps_cons]
   exact ⟨x',by rw [res_put h2]; exact hx',hk⟩
theorem frontStep {y:SStep} {s:List SStep}:∀ (p:List SStep),(∀ x ∈ p,pairOk x y = true) → ∀ {F:Frz} {L:Loc} {ρ:Env},Real F L → Vd L ρ → evalOps P (p ++ y :: s) F L ρ K → evalOps P (y :: (p ++ s)) F L ρ K
 | [],_,F,L,ρ,_,_,h => h
 | .frz k :: p,hp,F,L,ρ,_,_,h => by
  have:=hp (.frz k) (by simp)
  exact absurd this (by cases y <;> exact Bool.false_ne_true)
 | .pc d o g :: p,hp,F,L,ρ,_,_,h => by
  have:=hp (.pc d o g) (by simp)
  exact absurd this (by cases y <;> exact Bool.false_ne_true)
 | .op dx x gx :: p,hp,F,L,ρ,hr,hvd,h => by
  have hxy:=hp (.op dx x gx) (by simp)
  have h':evalOps P (.op dx x gx :: y :: (p ++ s)) F L ρ K:=by
   rw [List.cons_append,evalOps_cons] at h
   obtain ⟨x',hx',h⟩:=h
   have okx:okD x = true:=by
    cases y with
    | frz k => exact absurd hxy Bool.false_ne_true
    | pc d o g => exact absurd hxy Bool.false_ne_true
    | op dy y gy => simp only [pairOk,Bool.and_eq_true] at hxy; exact hxy.1.1.1.1.1
   have okx':okD x' = true:=by rcases res_cases hx' with rfl | rfl; exact okx; rfl
   rw [evalOps_cons]
   refine ⟨x',hx',evalOp_shape okx' hr hvd h ?_⟩
   intro F1 L1 ρ1 _ _ hr1 hvd1 hk
   exact frontStep p (fun z hz => hp z (by simp [hz])) hr1 hvd1 hk
  exact swapStep hxy hr hvd h'
end
def isOs (A:Ann):Op → Bool
 | .store _ (.tmp i) _ => mem? A.co (1000000 + i)
 | .mapUpdate _ (.tmp i) _ _ => mem? A.co (1000000 + i)
 | _ => false
def lowD (P:Program) (A:Ann) (ops:Array Oper) (i:Nat):Option SStep :=
 match ops[i]? with
 | none => none
 | some o => match lowGuard ops o.guard,lowOp P (A.owned o.dst) o.op,dstIn A.n o.dst with
  | some g,some s,true => match A.isX o.dst with
   | true => match g,s with
    | none,.call f l => some (.pc o.dst (.call f l) none)
    | none,.callV f l => some (.pc o.dst (.callV f l) none)
    | _,_ => none
   | false => match A.isO o.dst || isOs A o.op with
    | true => match drawnO s with
     | some s' => some (.op o.dst s' g)
     | none => none
    | false => match drawnL A.fl A.bk A.bx s with
     | some s' => match simpleD s' || callD? s' || allocD? s' || appD? s' || storeD? s' with
      | true => some (.op o.dst s' g)
      | false => none
     | none => none
  | _,_,_ => none
def lowRegD (P:Program) (A:Ann) (ops:Array Oper):List Nat → Option (List SStep)
 | [] => some []
 | i :: is => match lowD P A ops i,lowRegD P A ops is with
  | some s,some ss => some (s :: ss)
  | _,_ => none
def binding (e:Edge):Bool:=Region.binds .any e
def direct (ops:Array Oper) (i:Nat):List Nat :=
 match ops[i]? with
 | some o => (o.after.toList.filter binding).map (·.on)
 | none => []
def clAt:List (List Nat) → Nat → List Nat
 | [],_ => []
 | l :: _,0 => l
 | _ :: ls,n + 1 => clAt ls n
def anyMem (cl:List (List Nat)) (x:Nat):List Nat → Bool
 | [] => false
 | z :: zs => match mem? (clAt cl z) x with | true => true | false => anyMem cl x zs
def clOkAt (ops:Array Oper) (cl:List (List Nat)) (y:Nat):Bool :=
 (direct ops y).all (fun z => Nat.blt z y) && (clAt cl y).all (fun x => mem? (direct ops y) x || anyMem cl x (direct ops y))
def clOk (ops:Array Oper) (cl:List (List Nat)):Bool:=(List.range ops.size).all (clOkAt ops cl)
def pairsOk (cl:List (List Nat)):List (Nat × SStep) → Bool
 | [] => true
 | (x,sx) :: l => l.all (fun p => pairOk sx p.2 || mem? (clAt cl p.1) x) && pairsOk cl l
def nodup?:List Nat → Bool
 | [] => true
 | x :: l => !mem? l x && nodup? l
def drawOk (P:Program) (ops:Array Oper) (is:List Nat) (cl:List (List Nat)) (ss:List SStep):Bool :=
 P.follows .mixedOrders && clOk ops cl && nodup? is && Nat.beq is.length ops.size && is.all (fun i => Nat.blt i ops.size) && (List.range ops.size).all (mem? is) && pairsOk cl (is.zip ss)
theorem nodup?_eq:∀ {l:List Nat},nodup? l = true → l.Nodup
 | [],_ => List.nodup_nil
 | x :: l,h => by
  simp only [nodup?,Bool.and_eq_true,Bool.not_eq_true'] at h
  refine List.nodup_cons.2 ⟨fun hx => ?_,nodup?_eq h.2⟩
  rw [mem?_eq.2 hx] at h
  cases h.1
theorem anyMem_eq {cl:List (List Nat)} {x:Nat}:∀ {l:List Nat},anyMem cl x l = true → ∃ z,z ∈ l ∧ x ∈ clAt cl z
 | [],h => by cases h
 | z :: zs,h => by
  simp only [anyMem] at h
  split at h
  ·rename_i hz; exact ⟨z,by simp,mem?_eq.1 hz⟩
  ·obtain ⟨z',h1,h2⟩:=anyMem_eq h
   exact ⟨z',by simp [h1],h2⟩
section
variable {P:Program} {K:Kont} {Q:Exit → Act → World → Prop} {ops:Array Oper}
theorem closed_done {cl:List (List Nat)} (hcl:clOk ops cl = true) {done:Nat → Prop} (hclosed:∀ i,i < ops.size → done i → ∀ z ∈ direct ops i,done z):∀ y,y < ops.size → (∀ z ∈ direct ops y,done z) → ∀ x ∈ clAt cl y,done x:=by
 intro y
 induction y using Nat.strongRecOn with
 | _ y ih =>
  intro hy hd x hx
  have h:=List.all_eq_true.1 hcl y (List.mem_range.2 hy)
  simp only [clOkAt,Bool.and_eq_true] at h
  have h2:=List.all_eq_true.1 h.2 x hx
  simp only [Bool.or_eq_true] at h2
  rcases h2 with h2 | h2
  ·exact hd x (mem?_eq.1 h2)
  ·obtain ⟨z,hz,hxz⟩:=anyMem_eq h2
   have hlt:z < y:=by
    have h3:Nat.blt z y = true:=List.all_eq_true.1 h.1 z hz
    simpa using h3
   exact ih z hlt (by omega) (hclosed z (by omega) (hd z hz)) x hxz
theorem lowRegD_get {A:Ann}:∀ {is:List Nat} {ss:List SStep},lowRegD P A ops is = some ss → ss.length = is.length ∧ ∀ p q y,is = p ++ y :: q → ∃ sp sy sq,ss = sp ++ sy :: sq ∧ sp.length = p.length ∧ lowD P A ops y = some sy ∧ lowRegD P A ops (p ++ q) = some (sp ++ sq)
 | [],ss,h => by
  simp only [lowRegD,Option.some.injEq] at h
  subst h
  refine ⟨rfl,fun p q y e => ?_⟩
  cases p <;> cases e
 | i :: is,ss,h => by
  simp only [lowRegD] at h
  split at h
  case h_2 => cases h
  rename_i s ss' h1 h2
  injection h with h
  subst h
  obtain ⟨e1,e2⟩:=lowRegD_get h2
  refine ⟨by simp [e1],fun p q y e => ?_⟩
  cases p with
  | nil =>
   simp only [List.nil_append,List.cons.injEq] at e
   obtain ⟨rfl,rfl⟩:=e
   exact ⟨[],s,ss',rfl,rfl,h1,by simpa using h2⟩
  | cons x p =>
   simp only [List.cons_append,List.cons.injEq] at e
   obtain ⟨rfl,rfl⟩:=e
   obtain ⟨sp,sy,sq,e3,e4,e5,e6⟩:=e2 p q y rfl
   refine ⟨s :: sp,sy,sq,by simp [e3],by simp [e4],e5,?_⟩
   simp only [List.cons_append,lowRegD,h1,e6]
theorem pairsOk_del {cl:List (List Nat)}:∀ {p q:List (Nat × SStep)} {y:Nat × SStep},pairsOk cl (p ++ y :: q) = true → pairsOk cl (p ++ q) = true ∧ ∀ x ∈ p,pairOk x.2 y.2 = true ∨ x.1 ∈ clAt cl y.1
 | [],q,y,h => by
  obtain ⟨y1,y2⟩:=y
  simp only [List.nil_append,pairsOk,Bool.and_eq_true] at h ⊢
  exact ⟨h.2,fun x hx => by cases hx⟩
 | (x1,x2) :: p,q,y,h => by
  simp only [List.cons_append,pairsOk,Bool.and_eq_true] at h ⊢
  obtain ⟨h1,h2⟩:=h
  obtain ⟨h3,h4⟩:=pairsOk_del h2
  have h1':=List.all_eq_true.1 h1
  refine ⟨⟨List.all_eq_true.2 fun z hz => h1' z ?_,h3⟩,fun x hx => ?_⟩
  ·rcases List.mem_append.1 hz with hz | hz
   ·exact List.mem_append.2 (.inl hz)
   ·exact List.mem_append.2 (.inr (List.mem_cons_of_mem _ hz))
  ·rcases List.mem_cons.1 hx with rfl | hx
   ·have:=h1' y (List.mem_append.2 (.inr (by simp)))
    simp only [Bool.or_eq_true] at this
    rcases this with h | h
    ·exact .inl h
    ·exact .inr (mem?_eq.1 h)
   ·exact h4 x hx
theorem EnvOk.same {L L2:Loc} {ρ:Env} {a:Act} (h:EnvOk L ρ a) (hs:L.sameAs L2):EnvOk L2 ρ a:=by
 have hc:∀ sv,conc L2 sv = conc L sv:=by
  intro sv
  cases sv with
  | v x => rfl
  | el a j => rfl
  | own k off => simp only [conc,hs k]
 exact ⟨fun j => by rw [hc]; exact h.eq j,fun j k off e => by rw [hs k]; exact h.own j k off e,h.el⟩
theorem Step.sameL {F F':Frz} {L L' L2:Loc} {w w':World} (h:Step F L w F' L' w') (hs:L'.sameAs L2):Step F L w F' L2 w' :=
 ⟨h.le,h.os,h.tape,h.output,h.size,h.same,h.frz,fun b ⟨k,o,e,hb⟩ => h.own b ⟨k,o,by rw [← hs k]; exact e,hb⟩⟩
theorem step_any {A:Ann} {i:Nat} {s:SStep} {rest:List SStep} {F:Frz} {L:Loc} {ρ:Env} {a:Act} {w:World} {KK:Act → World → Prop} (hi:i < ops.size) (hl:lowD P A ops i = some s) (hs:St F L w) (he:EnvOk L ρ a) (hn:a.tmps.size = A.n)
  (hK:evalOps P (s :: rest) F L ρ K)
  (hQ:∀ a' w' F' L' ρ',St F' L' w' → EnvOk L' ρ' a' → a'.tmps.size = A.n → a'.defers = a.defers → Step F L w F' L' w' → (∀ j,((ops[i]?).bind (·.dst)) ≠ some j → a'.tmps.getD j undef = a.tmps.getD j undef) → evalOps P rest F' L' ρ' K → KK a' w') :
  wpOp P ops Q i KK a w:=by
 unfold lowD at hl
 split at hl
 case h_1 => cases hl
 rename_i o hoi
 split at hl
 case h_2 => cases hl
 rename_i g s0 hg hop hdst
 split at hl
 ·split at hl
  ·injection hl with hl
   subst hl
   simp only [evalOps] at hK
  ·injection hl with hl
   subst hl
   simp only [evalOps] at hK
  ·cases hl
 have hex:∃ s',s = .op o.dst s' g ∧ ((∀ {F:Frz} {L:Loc} {ρ:Env} {K:Kont},evalOp P s' o.dst F L ρ K → evalOp P s0 o.dst F L ρ (fun F' L' ρ' => Real F' L' → K F' L' ρ')) ∨
   ∀ {F:Frz} {L:Loc} {ρ:Env} {K:Kont},evalOp P s' o.dst F L ρ K → evalOp P s0 o.dst F L ρ (fun F' L' ρ' => ∃ L2,L'.sameAs L2 ∧ (Real F' L2 → K F' L2 ρ'))):=by
  split at hl
  ·split at hl
   case h_2 => cases hl
   rename_i s' hs'
   injection hl with hl
   exact ⟨s',hl.symm,.inl fun h => undrawO hs' h⟩
  ·split at hl
   case h_2 => cases hl
   rename_i s' hs'
   split at hl
   case h_2 => cases hl
   rename_i hcls
   injection hl with hl
   cases hcd:callD? s' with
   | true => exact ⟨s',hl.symm,.inr fun h => undrawLC hs' hcd h⟩
   | false => exact ⟨s',hl.symm,.inl fun h => undrawL hs' hcls hcd h⟩
 obtain ⟨s',hls,hun⟩:=hex
 subst hls
 have hd:∀ k,o.dst = some k → k < a.tmps.size:=by
  intro k hk
  rw [hk] at hdst
  rw [hn]
  have h2:Nat.blt k A.n = true:=hdst
  simpa using h2
 have hdi:(ops[i]?).bind (·.dst) = o.dst:=by rw [hoi]; rfl
 rw [hdi] at hQ
 simp only [wpOp,hoi]
 have goOn:evalOp P s' o.dst F L ρ (fun F' L' ρ' => evalOps P rest F' L' ρ' K) → o.wp P a w KK Q:=by
  intro hK
  rcases hun with hun | hun
  ·have h1:=hun hK
   have:=evalOp_sound (Q:=Q) hs he hd hop h1
   refine Oper.wp_mono ?_ (wp_frame (asg:=[]) this)
   rintro a' w' ⟨⟨F',L',ρ',g1,g2,g3,g4,g5,g6⟩,hfr⟩
   exact hQ a' w' F' L' ρ' g1 g2 (by rw [g3,hn]) g4 g5 hfr (g6 ⟨w',g1⟩)
  ·have h1:=hun hK
   have:=evalOp_sound (Q:=Q) hs he hd hop h1
   refine Oper.wp_mono ?_ (wp_frame (asg:=[]) this)
   rintro a' w' ⟨⟨F',L',ρ',g1,g2,g3,g4,g5,L2,g6,g7⟩,hfr⟩
   have s1:St F' L2 w':=g1.part fun k o e => by rw [← g6 k]; exact e
   exact hQ a' w' F' L2 ρ' s1 (g2.same g6) (by rw [g3,hn]) g4 (g5.sameL g6) hfr (g7 ⟨w',s1⟩)
 have skip:evalOps P rest F L (put o.dst (.v undef) ρ) K → KK (a.put o.dst undef) w:=by
  intro hK
  exact hQ _ w F L _ hs (he.put hd (v:=undef) (x:=.v undef) rfl noOwn noEl (boxKeep L)) (by rw [size_put,hn]) (defers_put _ _ _) (Step.refl _ _ _) (fun j hj => put_frame hj) hK
 cases hgd:o.guard with
 | none =>
  rw [hgd] at hg
  simp only [lowGuard,Option.some.injEq] at hg
  subst hg
  simp only [evalOps] at hK
  rw [if_pos (by simp [Region.wanted,hgd])]
  exact .inl (goOn hK)
 | some p =>
  obtain ⟨j,want⟩:=p
  rw [hgd] at hg
  simp only [lowGuard] at hg
  split at hg
  case h_2 => cases hg
  rename_i d hjd
  injection hg with hg
  subst hg
  simp only [evalOps] at hK
  split at hK
  ·rename_i b hb
   have htmp:=he.eq d
   rw [hb] at htmp
   have hy:yielded ops a.tmps j = some b:=by
    simp only [yielded,hjd,Option.bind_some,getD_bool htmp]
   have hw:Region.wanted o (yielded ops a.tmps) = (b == want):=by
    simp only [Region.wanted,hgd,hy]
    cases b <;> cases want <;> rfl
   rw [hw]
   cases b <;> simp only [brn] at hK
   ·rw [put_same hb] at hK
    cases want
    ·exact .inl (goOn hK)
    ·exact skip hK
   ·rw [put_same hb] at hK
    cases want
    ·exact skip hK
    ·exact .inl (goOn hK)
  ·rename_i vs hb
   have htmp:=he.eq d
   rw [hb] at htmp
   have hy:yielded ops a.tmps j = none:=by
    simp only [yielded,hjd,Option.bind_some]
    rw [Array.getD_eq_getD_getElem?] at htmp
    cases e:a.tmps[d]? with
    | none => rfl
    | some v => rw [e] at htmp; simp only [Option.getD_some,conc] at htmp; rw [htmp]
   have hw:Region.wanted o (yielded ops a.tmps) = false:=by
    simp only [Region.wanted,hgd,hy]; rfl
   rw [hw]
   exact skip hK
  ·exact hK.elim
theorem EnvOk.vd {L:Loc} {ρ:Env} {a:Act} (he:EnvOk L ρ a):Vd L ρ:=by
 intro t k off e
 exact he.own t k off e
theorem getD_any {l:Array Bool} {z:Nat} (h:z < l.size) (b c:Bool):l.getD z b = l.getD z c:=by
 simp [Array.getD_eq_getD_getElem?,h]
theorem min_mem:∀ {l:List Nat},l ≠ [] → ∃ y,y ∈ l ∧ ∀ z ∈ l,y ≤ z
 | [],h => absurd rfl h
 | [x],_ => ⟨x,by simp,fun z hz => by simp at hz; omega⟩
 | x :: x' :: l,_ => by
  obtain ⟨y,h1,h2⟩:=min_mem (l:=x' :: l) (by simp)
  by_cases h:x ≤ y
  ·exact ⟨x,by simp,fun z hz => by
    rcases List.mem_cons.1 hz with rfl | hz
    ·exact Nat.le_refl _
    ·exact Nat.le_trans h (h2 z hz)⟩
  ·exact ⟨y,List.mem_cons_of_mem _ h1,fun z hz => by
    rcases List.mem_cons.1 hz with rfl | hz
    ·omega
    ·exact h2 z hz⟩
theorem direct_mem {i z:Nat} {o:Oper} (ho:ops[i]? = some o):z ∈ direct ops i ↔ ∃ e ∈ o.after,Region.binds .any e = true ∧ e.on = z:=by
 simp only [direct,ho,List.mem_map,List.mem_filter,Array.mem_toList_iff,binding]
 constructor
 ·rintro ⟨e,⟨h1,h2⟩,h3⟩; exact ⟨e,h1,h2,h3⟩
 ·rintro ⟨e,h1,h2,h3⟩; exact ⟨e,⟨h1,h2⟩,h3⟩
theorem any_sound {A:Ann} {cl:List (List Nat)} (hcl:clOk ops cl = true):∀ (fuel:Nat) (rem:List Nat) (ss:List SStep) (listed:Array Bool) (F:Frz) (L:Loc) (ρ:Env) (a:Act) (w:World),
  lowRegD P A ops rem = some ss → listed.size = ops.size → rem.Nodup → (∀ i,i ∈ rem ↔ i < ops.size ∧ listed.getD i true = false) → rem.length ≤ fuel → pairsOk cl (rem.zip ss) = true →
  (∀ i,i < ops.size → listed.getD i true = true → ∀ z ∈ direct ops i,listed.getD z true = true) →
  St F L w → EnvOk L ρ a → a.tmps.size = A.n → evalOps P ss F L ρ K →
  (∀ a' w',Next2 A.n F L w a (dstsOf ops (List.range ops.size)) K a' w' → Q .normal a' w') → wpAny P .any ops Q fuel listed a w:=by
 have edgeLt:∀ y z,y < ops.size → z ∈ direct ops y → z < y:=by
  intro y z hy hz
  have h:=List.all_eq_true.1 hcl y (List.mem_range.2 hy)
  simp only [clOkAt,Bool.and_eq_true] at h
  have h3:Nat.blt z y = true:=List.all_eq_true.1 h.1 z hz
  simpa using h3
 intro fuel
 induction fuel with
 | zero =>
  intro rem ss listed F L ρ a w hl hsz hnd hrem hlen hp hclosed hs he hn hK hQ
  have:rem = []:=List.eq_nil_of_length_eq_zero (by omega)
  subst this
  simp only [lowRegD,Option.some.injEq] at hl
  subst hl
  refine ⟨?_,hQ a w ⟨F,L,ρ,hs,he,hn,rfl,Step.refl _ _ _,fun _ _ => rfl,hK⟩⟩
  apply List.eq_nil_iff_forall_not_mem.2
  intro i hi
  rw [mem_ready] at hi
  obtain ⟨h1,o,h2,_⟩:=hi
  have:=(hrem i).2 ⟨(Array.getElem?_eq_some_iff.1 h2).1,h1⟩
  cases this
 | succ fuel ih =>
  intro rem ss listed F L ρ a w hl hsz hnd hrem hlen hp hclosed hs he hn hK hQ
  refine ⟨fun hr => ?_,fun y hy => ?_⟩
  ·have:rem = []:=by
    refine Classical.byContradiction fun hne => ?_
    obtain ⟨y,h1,h2⟩:=min_mem hne
    obtain ⟨h3,h4⟩:=(hrem y).1 h1
    have hmem:y ∈ Region.ready .any ops listed:=by
     rw [mem_ready]
     refine ⟨h4,ops[y],Array.getElem?_eq_getElem h3,fun e he1 he2 => ?_⟩
     have hz:e.on ∈ direct ops y:=(direct_mem (Array.getElem?_eq_getElem h3)).2 ⟨e,he1,he2,rfl⟩
     have hlt:=edgeLt y e.on h3 hz
     rw [getD_any (by omega) false true]
     cases hd:listed.getD e.on true with
     | true => rfl
     | false =>
      have:=h2 e.on ((hrem e.on).2 ⟨by omega,hd⟩)
      omega
    rw [hr] at hmem
    cases hmem
   subst this
   simp only [lowRegD,Option.some.injEq] at hl
   subst hl
   exact hQ a w ⟨F,L,ρ,hs,he,hn,rfl,Step.refl _ _ _,fun _ _ => rfl,hK⟩
  ·rw [mem_ready] at hy
   obtain ⟨h1,o,ho,hdeps⟩:=hy
   have hylt:=(Array.getElem?_eq_some_iff.1 ho).1
   have hyrem:=(hrem y).2 ⟨hylt,h1⟩
   obtain ⟨p,q,rfl⟩:=List.append_of_mem hyrem
   obtain ⟨hss,hget⟩:=lowRegD_get hl
   obtain ⟨sp,sy,sq,rfl,hspl,hsy,hl'⟩:=hget p q y rfl
   have hzip:(p ++ y :: q).zip (sp ++ sy :: sq) = p.zip sp ++ (y,sy) :: q.zip sq:=by
    rw [List.zip_append hspl.symm]; rfl
   rw [hzip] at hp
   obtain ⟨hp1,hp2⟩:=pairsOk_del hp
   have hdir:∀ z ∈ direct ops y,listed.getD z true = true:=by
    intro z hz
    have hlt:=edgeLt y z hylt hz
    obtain ⟨e,he1,he2,rfl⟩:=(direct_mem ho).1 hz
    rw [getD_any (by omega) true false]
    exact hdeps e he1 he2
   have hfront:∀ sx ∈ sp,pairOk sx sy = true:=by
    intro sx hsx
    obtain ⟨k,hk⟩:=List.getElem?_of_mem hsx
    have hkl:=(List.getElem?_eq_some_iff.1 hk).1
    have hpk:p[k]? = some (p[k]'(by omega)):=List.getElem?_eq_getElem (by omega)
    have hm:(p[k]'(by omega),sx) ∈ p.zip sp:=List.mem_of_getElem? (i:=k) (by rw [List.getElem?_zip_eq_some]; exact ⟨hpk,hk⟩)
    rcases hp2 _ hm with h | h
    ·exact h
    ·exfalso
     have hd:=closed_done hcl (done:=fun z => listed.getD z true = true) hclosed y hylt hdir _ h
     have hin:p[k]'(by omega) ∈ p ++ y :: q:=List.mem_append.2 (.inl (List.mem_of_getElem? hpk))
     have:=((hrem _).1 hin).2
     simp only at hd
     rw [hd] at this
     cases this
   have hK':=frontStep sp hfront ⟨w,hs⟩ he.vd hK
   refine step_any hylt hsy hs he hn hK' ?_
   intro a' w' F' L' ρ' g1 g2 g3 g4 g5 g6 g7
   have hnd':(p ++ q).Nodup ∧ y ∉ p ++ q:=by
    have:=(List.perm_middle.nodup_iff).1 hnd
    rw [List.nodup_cons] at this
    exact ⟨this.2,this.1⟩
   have hset:∀ i,(listed.setIfInBounds y true).getD i true = if i = y then true else listed.getD i true:=by
    intro i
    simp only [Array.getD_eq_getD_getElem?,Array.getElem?_setIfInBounds]
    by_cases hi:y = i
    ·subst hi; rw [if_pos rfl,if_pos rfl]; simp [hsz,hylt]
    ·rw [if_neg hi,if_neg (fun h => hi h.symm)]
   refine ih (p ++ q) (sp ++ sq) _ F' L' ρ' a' w' hl' (by simp [hsz]) hnd'.1 (fun i => ?_) (by simp at hlen ⊢; omega) ?_ ?_ g1 g2 g3 g7 ?_
   ·rw [hset]
    have h0:=hrem i
    constructor
    ·intro hi
     have hne:i ≠ y:=fun e => hnd'.2 (e ▸ hi)
     rw [if_neg hne]
     refine h0.1 ?_
     rcases List.mem_append.1 hi with h | h
     ·exact List.mem_append.2 (.inl h)
     ·exact List.mem_append.2 (.inr (List.mem_cons_of_mem _ h))
    ·rintro ⟨hi1,hi2⟩
     split at hi2
     ·cases hi2
     ·rename_i hne
      have:=h0.2 ⟨hi1,hi2⟩
      rcases List.mem_append.1 this with h | h
      ·exact List.mem_append.2 (.inl h)
      ·rcases List.mem_cons.1 h with h | h
       ·exact absurd h hne
       ·exact List.mem_append.2 (.inr h)
   ·rw [List.zip_append hspl.symm]; exact hp1
   ·intro i hi hd z hz
    rw [hset] at hd ⊢
    split
    ·rfl
    ·split at hd
     ·rename_i h; subst h; exact hdir z hz
     ·exact hclosed i hi hd z hz
   ·rintro a'' w'' ⟨F'',L'',ρ'',k1,k2,k3,k4,k5,k6,k7⟩
    refine hQ a'' w'' ⟨F'',L'',ρ'',k1,k2,k3,k4.trans g4,g5.trans k5,fun j hj => ?_,k7⟩
    rw [k6 j hj,g6 j]
    intro e
    apply hj
    have:∀ (is:List Nat),y ∈ is → j ∈ dstsOf ops is:=by
     intro is
     induction is with
     | nil => intro h; cases h
     | cons x is ihx =>
      intro h
      simp only [dstsOf]
      rcases List.mem_cons.1 h with rfl | h
      ·rw [e]; simp
      ·split
       ·exact List.mem_cons_of_mem _ (ihx h)
       ·exact ihx h
    exact this _ (List.mem_range.2 hylt)
theorem draw_sound {A:Ann} {r:Nat} {is:List Nat} {cl:List (List Nat)} {ss:List SStep} {F:Frz} {L:Loc} {ρ:Env} {a:Act} {w:World} (hl:lowRegD P A ops is = some ss) (hc:drawOk P ops is cl ss = true)
  (hs:St F L w) (he:EnvOk L ρ a) (hn:a.tmps.size = A.n) (hK:evalOps P ss F L ρ K) (hQ:∀ a' w',Next2 A.n F L w a (dstsOf ops (List.range ops.size)) K a' w' → Q .normal a' w') :
  (Code.region r ops true).wp P Q a w:=by
 simp only [drawOk,Bool.and_eq_true] at hc
 obtain ⟨⟨⟨⟨⟨⟨h1,h2⟩,h3⟩,h4⟩,h5⟩,h7⟩,h6⟩:=hc
 have h3:=nodup?_eq h3
 have h4:=Nat.eq_of_beq_eq_true h4
 have hlt:∀ i ∈ is,i < ops.size:=fun i hi => by
  have h:Nat.blt i ops.size = true:=List.all_eq_true.1 h5 i hi
  simpa using h
 refine wp_region_any h1 ?_
 show wpAny P .any ops Q ops.size (Array.replicate ops.size false) a w.drew
 refine any_sound h2 ops.size is ss _ F L ρ a w.drew hl (by simp) h3 (fun i => ?_) (by omega) h6 ?_ hs.drew he hn hK ?_
 ·constructor
  ·intro hi
   refine ⟨hlt i hi,?_⟩
   simp [Array.getD_eq_getD_getElem?,hlt i hi]
  ·rintro ⟨hi,_⟩
   exact mem?_eq.1 (List.all_eq_true.1 h7 i (List.mem_range.2 hi))
 ·intro i hi hd'
  simp [Array.getD_eq_getD_getElem?,hi] at hd'
 ·rintro a' w' ⟨F',L',ρ',g1,g2,g3,g4,g5,g6,g7⟩
  refine hQ a' w' ⟨F',L',ρ',g1,g2,g3,g4,?_,g6,g7⟩
  exact ⟨g5.le,g5.os,g5.tape,g5.output,g5.size,g5.same,g5.frz,g5.own⟩
end
def BoxKeep (L L':Loc):Prop:=∀ k g t cs,L.get k = some (.box g t cs) → ∃ cs',L'.get k = some (.box g t cs')
def BoxKeepK (ks:List Nat) (L L':Loc):Prop:=∀ k g t cs,L.get k = some (.box g t cs) → ∃ cs',L'.get k = some (.box g t cs') ∧ (k ∉ ks → cs' = cs)
structure CallXPt (P:Program) (PX:Loc → Value → Prop) (f:Nat) (args:List Value) (F:Frz) (L:Loc) (K:Frz → Loc → Value → Prop):Prop where
 out:∃ (ks ko:List Nat) (Lin:List Own) (R:Frz → List Own → Value → Prop) (Pp:Value → Prop),L.sub ks = some Lin ∧ ks.Nodup ∧ ko.Nodup ∧ (∀ k,k ∈ ko → k ∈ ks ∨ L.get k = none) ∧ CallsX P f args.toArray F Lin R Pp ∧
  (∀ v L',BoxKeepK ks L L' → Pp v → PX L' v) ∧
  ∀ v F' Lo,F.le F' → R F' Lo v → ko.length = Lo.length ∧
   (∀ k g t cs,k ∈ ks → L.get k = some (.box g t cs) → ∃ cs',Loc.get ((L.dels ks).puts ko Lo) k = some (.box g t cs')) ∧
   K F' ((L.dels ks).puts ko Lo) v
section
variable {P:Program} {F:Frz} {L:Loc} {ρ:Env} {a:Act} {w:World} {K:Kont} {o:Oper} {Q:Exit → Act → World → Prop}
theorem CallXPt.imp {PX:Loc → Value → Prop} {f:Nat} {args:List Value} {K K':Frz → Loc → Value → Prop} (h:CallXPt P PX f args F L K) (hk:∀ F' L' v,K F' L' v → K' F' L' v):CallXPt P PX f args F L K':=by
 obtain ⟨ks,ko,l,R,Pp,h1,h2,h3,h4,h5,h6,h7⟩:=h
 exact ⟨ks,ko,l,R,Pp,h1,h2,h3,h4,h5,h6,fun v F' Lo hF hR => let ⟨a,b,c⟩:=h7 v F' Lo hF hR; ⟨a,b,hk _ _ _ c⟩⟩
theorem wp_callX {PX:Loc → Value → Prop} {f:Nat} {args:List Value} (hs:St F L w) (he:EnvOk L ρ a) (hd:∀ k,o.dst = some k → k < a.tmps.size)
  (hrun:(∃ fn,P.funcs[f]? = some fn ∧ fn.body.isSome = true ∧ (fn.name == "runtime.NumGoroutine") = false) → (execOp a.eval o).run P w = .ok (.enter f args.toArray) w)
  (hK:CallXPt P PX f args F L fun F' L' v => K F' L' (put o.dst (.v v) ρ))
  (hQ:∀ v ch w' F' L',Chn v ch → St F' L' w' → Step F L w F' L' w' → PX L' v → Q (.panic ch) a w'):o.wp P a w (Next1 F L w a K) Q:=by
 obtain ⟨ks,ko,l,R,Pp,hsub,hn,hno,hko,hc,hPX,hK⟩:=hK
 unfold Oper.wp
 rw [hrun hc.ent]
 rw [Oper.upon_enter]
 refine (hc.run w (hs.handed hsub hn)).mono ?_
 rintro e w' (⟨v,F',lo,rfl,hs',hst,hR⟩ | ⟨v,ch,F',lo,rfl,hch,hs',hst,hlo,hbx,hp⟩)
 ·obtain ⟨hlen,hbox,hK⟩:=hK v F' lo hst.le hR
  obtain ⟨h1,h2⟩:=call_back hs hsub hn hno hko hs' hst hlen
  refine ⟨F',_,_,h1,he.put hd (x:=.v v) rfl noOwn noEl ?_,size_put _ _ _,defers_put _ _ _,h2,hK⟩
  intro k g ty cs e
  by_cases hk:k ∈ ks
  ·exact hbox k g ty cs hk e
  ·rcases puts_get ko lo (L.dels ks) k hno hlen with ⟨h1,h2⟩ | ⟨i,h1,h2,h3⟩
   ·rw [h1,dels_get,if_neg hk]
    exact ⟨cs,e⟩
   ·rcases hko k (List.mem_of_getElem? h1) with h | h
    ·exact absurd h hk
    ·rw [h] at e; cases e
 ·obtain ⟨hl,hg⟩:=sub_get hsub
  have hlen:ks.length = lo.length:=by rw [hlo,hl]
  obtain ⟨h1,h2⟩:=call_back hs hsub hn hn (fun k hk => .inl hk) hs' hst hlen
  refine hQ v ch w' F' _ hch h1 h2 (hPX v _ ?_ hp)
  intro k g t cs e
  rcases puts_get ks lo (L.dels ks) k hn hlen with ⟨q1,q2⟩ | ⟨i,q1,q2,q3⟩
  ·rw [q1,dels_get,if_neg q2]
   exact ⟨cs,e,fun _ => rfl⟩
  ·rw [q2]
   have:=hg i k q1
   rw [e] at this
   obtain ⟨cs',h⟩:=hbx i g t cs this.symm
   exact ⟨cs',h,fun h => absurd (List.mem_of_getElem? q1) h⟩
end
section
variable {P:Program}
theorem lowGl_gl {y:Operand} {s:SOp} (h:lowGl y = some s):∃ g,s = .gload g:=by
 cases y with
 | global g =>
  simp only [lowGl] at h
  split at h
  ·injection h with h; exact ⟨_,h.symm⟩
  ·cases h
 | tmp n => cases h
 | const v => cases h
 | func f => cases h
theorem low_call {own:Bool} {op:Op} {f:Nat} {args:List X} (hl:lowOp P own op = some (.call f args)):∃ c,op = .call c ∧ c.callee = .value (.func f) ∧ lowXs c.args.toList = some args:=by
 cases op
 case call c =>
  simp only [lowOp] at hl
  split at hl
  case h_1 => cases hl
  rename_i args' hargs
  split at hl
  ·rename_i f' hc
   split at hl
   case h_2 => cases hl
   split at hl
   case h_2 => cases hl
   injection hl with hl
   injection hl with e1 e2
   subst e1 e2
   exact ⟨c,rfl,hc,hargs⟩
  all_goals (exfalso; revert hl; repeat' split) <;> simp
 all_goals (exfalso; revert hl; simp only [lowOp]; repeat' split) <;> first | contradiction | (intro h; obtain ⟨k,h⟩:=lowGl_gl h; cases h; done) | (simp; done) | (rename_i h0; obtain ⟨k,rfl⟩:=lowGl_gl h0; simp)
theorem low_callV {own:Bool} {op:Op} {x:X} {args:List X} (hl:lowOp P own op = some (.callV x args)):∃ c,op = .call c ∧ lowXs c.args.toList = some args ∧ ((∃ y,c.callee = .value y ∧ lowX y = some x) ∨ ∃ n nm,x = .mt nm n):=by
 cases op
 case call c =>
  simp only [lowOp] at hl
  split at hl
  case h_1 => cases hl
  rename_i args' hargs
  split at hl
  ·exfalso; revert hl; (repeat' split) <;> simp
  ·rename_i y _ hc
   split at hl
   case h_2 => cases hl
   rename_i h1
   injection hl with hl
   injection hl with e1 e2
   subst e1 e2
   exact ⟨c,rfl,hargs,.inl ⟨y,hc,h1⟩⟩
  ·rename_i n nm hc
   injection hl with hl
   injection hl with e1 e2
   subst e1 e2
   exact ⟨c,rfl,hargs,.inr ⟨_,_,rfl⟩⟩
  all_goals (exfalso; revert hl; repeat' split) <;> simp
 all_goals (exfalso; revert hl; simp only [lowOp]; repeat' split) <;> first | contradiction | (intro h; obtain ⟨k,h⟩:=lowGl_gl h; cases h; done) | (simp; done) | (rename_i h0; obtain ⟨k,rfl⟩:=lowGl_gl h0; simp)
theorem low_pan {own:Bool} {op:Op} {x:X} (hl:lowOp P own op = some (.pan x)):∃ y,op = .panic y ∧ lowX y = some x:=by
 cases op
 case panic y =>
  simp only [lowOp] at hl
  split at hl
  case h_2 => cases hl
  rename_i h1
  injection hl with hl
  injection hl with e1
  subst e1
  exact ⟨y,rfl,h1⟩
 all_goals (exfalso; revert hl; simp only [lowOp]; repeat' split) <;> first | contradiction | (intro h; obtain ⟨k,h⟩:=lowGl_gl h; cases h; done) | (simp; done) | (rename_i h0; obtain ⟨k,rfl⟩:=lowGl_gl h0; simp)
end
section
variable {P:Program} {F:Frz} {L:Loc} {ρ:Env} {a:Act} {w:World} {K:Kont} {o:Oper} {Q:Exit → Act → World → Prop}
theorem pcall_sound {PX:Loc → Value → Prop} {own:Bool} {f:Nat} {args:List X} (hs:St F L w) (he:EnvOk L ρ a) (hd:∀ k,o.dst = some k → k < a.tmps.size) (hl:lowOp P own o.op = some (.call f args))
  (hK:CallXPt P PX f (evals L ρ args) F L fun F' L' v => K F' L' (put o.dst (.v v) ρ))
  (hQ:∀ v ch w' F' L',Chn v ch → St F' L' w' → Step F L w F' L' w' → PX L' v → Q (.panic ch) a w'):o.wp P a w (Next1 F L w a K) Q:=by
 refine wp_callX hs he hd (fun hent => ?_) hK hQ
 obtain ⟨c,ho,hc,ha⟩:=low_call hl
 have hev:=lowXs_eval ha he
 have hargs:c.args.map a.eval = (evals L ρ args).toArray:=by apply Array.ext'; simpa using hev
 simp [execOp,ho,resolve,hc,Deferred.ofValue,Act.eval,invoke,hargs,run_callFunc hent]
theorem pcallV_sound {PX:Loc → Value → Prop} {own:Bool} {f:Nat} {x:X} {fi ca:Array Value} {args:List X} (hs:St F L w) (he:EnvOk L ρ a) (hd:∀ k,o.dst = some k → k < a.tmps.size) (hl:lowOp P own o.op = some (.callV x args)) (hx:ev ρ x = .v (.func (.func f) fi ca))
  (hK:CallXPt P PX f (fi.toList ++ evals L ρ args ++ ca.toList) F L fun F' L' v => K F' L' (put o.dst (.v v) ρ))
  (hQ:∀ v ch w' F' L',Chn v ch → St F' L' w' → Step F L w F' L' w' → PX L' v → Q (.panic ch) a w'):o.wp P a w (Next1 F L w a K) Q:=by
 refine wp_callX hs he hd (fun hent => ?_) hK hQ
 obtain ⟨c,ho,ha,⟨y,hc,hy⟩ | ⟨n,nm,rfl⟩⟩:=low_callV hl
 rotate_left
 ·exfalso
  revert hx
  simp only [ev]
  cases ρ n <;> simp [mtv,undef]
 have ey:=lowX_eval hy he
 have hev:=lowXs_eval ha he
 have hargs:c.args.map a.eval = (evals L ρ args).toArray:=by apply Array.ext'; simpa using hev
 have hall:fi ++ ((evals L ρ args).toArray ++ ca) = (fi.toList ++ (evals L ρ args ++ ca.toList)).toArray:=by apply Array.ext'; simp
 simp [execOp,ho,resolve,hc,Deferred.ofValue,ey,val_v hx,invoke,hargs]
 rw [run_callFunc hent,hall]
theorem pan_sound {PX:Loc → Value → Prop} {own:Bool} {x:X} (hs:St F L w) (he:EnvOk L ρ a) (hl:lowOp P own o.op = some (.pan x)) {t:TypeId} {u:Value} (hx:val L ρ x = .iface t u) (hK:PX L (.iface t u))
  (hQ:∀ v ch w' F' L',Chn v ch → St F' L' w' → Step F L w F' L' w' → PX L' v → Q (.panic ch) a w'):o.wp P a w (Next1 F L w a K) Q:=by
 obtain ⟨y,ho,hy⟩:=low_pan hl
 have ey:=lowX_eval hy he
 unfold Oper.wp
 have hrun:(execOp a.eval o).run P w = .halt (.panic (.iface t u)) w:=by
  simp [execOp,ho,ey,hx,Instr.panic,goPanic]
 rw [hrun]
 exact hQ _ _ w F L (Chn.one _) hs (Step.refl _ _ _) hK
end
structure CallXDPt (P:Program) (PX:Loc → Value → Prop) (fb:List Nat) (f:Nat) (args:List Value) (F:Frz) (L:Loc) (K:Frz → Loc → Value → Prop):Prop where
 out:∃ (ks:List Nat) (Lin:List Own) (R:Frz → List Own → Value → Prop) (Pp:Value → Prop),L.sub ks = some Lin ∧ ks.Nodup ∧ (∀ k ∈ ks,k ∉ fb) ∧ CallsX P f args.toArray F Lin R Pp ∧
  (∀ v L',BoxKeepK ks L L' → Pp v → PX L' v) ∧
  ∀ v F' Lo,F.le F' → R F' Lo v → ks.length = Lo.length ∧ (∀ (i:Nat) g t cs,Lin[i]? = some (.box g t cs) → ∃ cs',Lo[i]? = some (.box g t cs')) ∧
   (Real F' (L.puts ks Lo) → K F' (L.puts ks Lo) v)
def xTgt (P:Program) (L:Loc) (ρ:Env):SOp → Option (Nat × List Value)
 | .call f args => some (f,evals L ρ args)
 | .callV f args => match ev ρ f with
  | .v (.func (.func f) fi ca) => some (f,fi.toList ++ evals L ρ args ++ ca.toList)
  | _ => none
 | _ => none
def slotsXC:SOp → List Nat
 | .call _ args => slotsX args
 | .callV f args => slotsX (f :: args)
 | _ => []
def isXC:SOp → Bool
 | .call _ _ => true
 | .callV _ _ => true
 | _ => false
def evalOpsX (P:Program) (PX:Loc → Value → Prop) (fb:List Nat):List SStep → Frz → Loc → Env → Kont → Prop
 | [],F,L,ρ,K => K F L ρ
 | .op d o g :: rest,F,L,ρ,K => ∃ o',res g ρ o = some o' ∧ evalOp P o' d F L ρ fun F' L' ρ' => evalOpsX P PX fb rest F' L' ρ' K
 | .frz _ :: _,_,_,_,_ => False
 | .pc d o g :: rest,F,L,ρ,K => match xTgt P L ρ o,g with
  | some (f,vs),none => CallXDPt P PX fb f vs F L fun F' L' v => evalOpsX P PX fb rest F' L' (put d (.v v) ρ) K
  | _,_ => False
def loadF?:SOp → Bool
 | .loadF _ _ _ => true
 | .gload _ => true
 | _ => false
def mkfn?:SOp → Bool
 | .mkfn _ _ _ => true
 | _ => false
def flD (o:SOp):Bool:=pureD o || loadF? o || mkfn? o
def flK (fb:List Nat):SOp → Bool
 | .loadK key _ _ _ => mem? fb key
 | _ => false
theorem flD_simple {fb:List Nat} {o:SOp} (h:(flD o || flK fb o) = true):simpleD o = true:=by cases o <;> first | rfl | (exact absurd h (by decide)) | (simp [flD,flK,pureD,loadF?,mkfn?] at h)
def newK:SStep → Option Nat
 | .op d (.allocD _ _) none => d
 | _ => none
def dstS:SStep → Option Nat
 | .op d _ _ => d
 | .frz _ => none
 | .pc d _ _ => d
def pairOkX (fb:List Nat):SStep → SStep → Bool
 | .op dx x gx,.op dy y gy => pairOk (.op dx x gx) (.op dy y gy)
 | .op dx x gx,.pc dy y none => isXC y && (flD x || flK fb x) && optNot dx (slotsXC y) && optNot dy (looks x gx) && optNe dx dy
 | .pc dx x none,.op (some k) (.allocD _ _) none => isXC x && optNot (some k) (slotsXC x) && optNe dx (some k)
 | _,_ => false
def xOk:SStep → Bool
 | .op _ o _ => okD o
 | .pc _ o none => isXC o
 | _ => false
section
variable {P:Program} {PX:Loc → Value → Prop} {fb:List Nat} {F F':Frz} {L L':Loc} {ρ:Env} {K K':Kont}
theorem conc_keep {sv:SV} (hb:BoxKeep L L') (hv:∀ k off,sv = .own k off → ∃ g t cs,L.get k = some (.box g t cs)):conc L' sv = conc L sv:=by
 cases sv with
 | v x => rfl
 | el a j => rfl
 | own k off =>
  obtain ⟨g,t,cs,e⟩:=hv k off rfl
  obtain ⟨cs',e'⟩:=hb k g t cs e
  simp only [conc,e,e']
theorem val_keep (hb:BoxKeep L L') (hvd:Vd L ρ) (x:X):val L' ρ x = val L ρ x:=conc_keep hb fun k off e => hvd.ev e
theorem evals_keep (hb:BoxKeep L L') (hvd:Vd L ρ) (xs:List X):evals L' ρ xs = evals L ρ xs:=evals_alike fun x _ => val_keep hb hvd x
theorem evals_putN {d:Option Nat} {v:SV} {xs:List X} (h:∀ k,d = some k → k ∉ slotsX xs):evals L (put d v ρ) xs = evals L ρ xs:=evals_alike fun x hx => by simp only [val,ev_put h x hx]
theorem outV_fl {o:SOp} (h:(flD o || flK fb o) = true) (hfb:∀ j ∈ fb,L'.get j = L.get j) (hF:F.le F') (hb:BoxKeep L L') (hvd:Vd L ρ) {V:SV → Prop} (hK:outV o F L ρ V):outV o F' L' ρ V:=by
 simp only [flD,Bool.or_eq_true] at h
 rcases h with ((h | h) | h) | h
 rotate_right
 ·cases o <;> first | (cases h; done) | skip
  rename_i key ag n x
  have hk:=hfb key (mem?_eq.1 h)
  simp only [outV] at hK ⊢
  split at hK
  ·rename_i k off e
   split at hK
   ·rename_i hb2
    have hb2:=Nat.eq_of_beq_eq_true hb2
    subst hb2
    rw [hk]
    exact hK
   ·exact hK.elim
  ·exact hK.elim
 ·exact outV_pure h hK
 ·cases o <;> first | (cases h; done) | skip
  ·simp only [outV] at hK ⊢
   obtain ⟨u,t,fr,h1,h2⟩:=hK
   exact ⟨u,t,fr,hF _ _ h1,h2⟩
  ·simp only [outV] at hK ⊢
   split at hK
   ·exact hK.up hF
   ·exact hK.up hF
   ·exact hK.elim
 ·cases o <;> first | (cases h; done) | skip
  simp only [outV,evals_keep hb hvd] at hK ⊢
  exact hK
theorem BoxKeep.vd (hb:BoxKeep L L') (hvd:Vd L ρ):Vd L' ρ:=fun t k off e => let ⟨g,ty,cs,h⟩:=hvd t k off e; let ⟨cs',h'⟩:=hb k g ty cs h; ⟨g,ty,cs',h'⟩
theorem Vd.putv (hvd:Vd L ρ) (d:Option Nat) (v:Value):Vd L (put d (.v v) ρ):=by
 intro t k off e
 rw [put_eq] at e
 cases d with
 | none => exact hvd t k off e
 | some j =>
  simp only [] at e
  split at e
  ·cases e
  ·exact hvd t k off e
theorem puts_keep {ks:List Nat} {Lin Lo:List Own} (hsub:L.sub ks = some Lin) (hn:ks.Nodup) (hlen:ks.length = Lo.length) (hbx:∀ (i:Nat) g t cs,Lin[i]? = some (.box g t cs) → ∃ cs',Lo[i]? = some (.box g t cs')) :
  BoxKeep L (L.puts ks Lo) ∧ (∀ j,L.get j = none → (L.puts ks Lo).get j = none) ∧ ∀ j,j ∉ ks → (L.puts ks Lo).get j = L.get j:=by
 obtain ⟨hl,hg⟩:=sub_get hsub
 refine ⟨fun k g t cs e => ?_,fun j e => ?_,fun j hj => ?_⟩
 ·rcases puts_get ks Lo L k hn hlen with ⟨q1,q2⟩ | ⟨i,q1,q2,q3⟩
  ·rw [q1]; exact ⟨cs,e⟩
  ·rw [q2]
   have:=hg i k q1
   rw [e] at this
   exact hbx i g t cs this.symm
 ·rcases puts_get ks Lo L j hn hlen with ⟨q1,q2⟩ | ⟨i,q1,q2,q3⟩
  ·rw [q1]; exact e
  ·have:=hg i j q1
   rw [e] at this
   have h2:=List.getElem?_eq_none_iff.1 this.symm
   omega
 ·rcases puts_get ks Lo L j hn hlen with ⟨q1,q2⟩ | ⟨i,q1,q2,q3⟩
  ·exact q1
  ·exact absurd (List.mem_of_getElem? q1) hj
theorem CallXDPt.imp {f:Nat} {args:List Value} {K K':Frz → Loc → Value → Prop} (h:CallXDPt P PX fb f args F L K)
  (hk:∀ F' L' v,F.le F' → BoxKeep L L' → (∀ j,L.get j = none → L'.get j = none) → (∀ j ∈ fb,L'.get j = L.get j) → Real F' L' → K F' L' v → K' F' L' v):CallXDPt P PX fb f args F L K':=by
 obtain ⟨ks,l,R,Pp,h1,h2,h0,h3,h4,h5⟩:=h
 refine ⟨ks,l,R,Pp,h1,h2,h0,h3,h4,fun v F' Lo hF hR => ?_⟩
 obtain ⟨a,b,c⟩:=h5 v F' Lo hF hR
 obtain ⟨k1,k2,k3⟩:=puts_keep h1 h2 a b
 exact ⟨a,b,fun hr => hk _ _ _ hF k1 k2 (fun j hj => k3 j fun h => h0 j h hj) hr (c hr)⟩
theorem evalOpsX_cons {d:Option Nat} {o:SOp} {g:Option (Nat × Bool)} {rest:List SStep} :
  evalOpsX P PX fb (.op d o g :: rest) F L ρ K ↔ ∃ o',res g ρ o = some o' ∧ evalOp P o' d F L ρ (fun F1 L1 ρ1 => evalOpsX P PX fb rest F1 L1 ρ1 K):=Iff.rfl
theorem puts_set_comm:∀ (ks:List Nat) (Lo:List Own) (L:Loc) {k:Nat} {o:Own},k ∉ ks → (L.set k o).puts ks Lo = (L.puts ks Lo).set k o
 | [],Lo,L,k,o,_ => by cases Lo <;> rfl
 | j :: ks,[],L,k,o,_ => rfl
 | j :: ks,p :: Lo,L,k,o,h => by
  simp only [Loc.puts]
  rw [set_comm L o p (fun e => h (by simp [e])),puts_set_comm ks Lo (L.set j p) (fun hk => h (by simp [hk]))]
theorem sub_set:∀ {ks:List Nat} {L:Loc} {k:Nat} {o:Own},k ∉ ks → (L.set k o).sub ks = L.sub ks
 | [],L,k,o,_ => rfl
 | j :: ks,L,k,o,h => by
  simp only [Loc.sub]
  rw [get_set_ne (fun e => h (by simp [e])),sub_set (fun hk => h (by simp [hk]))]
theorem swapOO {dx dy:Option Nat} {x y:SOp} {gx gy:Option (Nat × Bool)} {rest:List SStep} (hp:pairOk (.op dx x gx) (.op dy y gy) = true) (hr:Real F L) (hvd:Vd L ρ) (h:evalOpsX P PX fb (.op dx x gx :: .op dy y gy :: rest) F L ρ K):evalOpsX P PX fb (.op dy y gy :: .op dx x gx :: rest) F L ρ K:=by
  simp only [pairOk,Bool.and_eq_true] at hp
  obtain ⟨⟨⟨⟨⟨okx,oky⟩,hc⟩,h1⟩,h2⟩,h3⟩:=hp
  have h1:=optNot_eq h1
  have h2:=optNot_eq h2
  have h3:=optNe_eq h3
  have h3':∀ k,dy = some k → dx ≠ some k:=fun k e e' => h3 k e' e
  rw [evalOpsX_cons] at h
  obtain ⟨x',hx',h⟩:=h
  have okskip:okD skipOp = true:=rfl
  have okx':okD x' = true:=by rcases res_cases hx' with rfl | rfl; exact okx; exact okskip
  have hy:∃ y',res gy ρ y = some y':=by
   obtain ⟨v,F1,L1,hk⟩:=evalOp_some okx' hr h
   rw [evalOpsX_cons] at hk
   obtain ⟨y',hy',_⟩:=hk
   rw [res_put h1] at hy'
   exact ⟨y',hy'⟩
  obtain ⟨y',hy'⟩:=hy
  have oky':okD y' = true:=by rcases res_cases hy' with rfl | rfl; exact oky; exact okskip
  have hA:evalOp P x' dx F L ρ (fun F1 L1 ρ1 => evalOp P y' dy F1 L1 ρ1 (fun F2 L2 ρ2 => evalOpsX P PX fb rest F2 L2 ρ2 K)):=by
   refine evalOp_shape okx' hr hvd h ?_
   rintro F1 L1 ρ1 ⟨v,rfl⟩ _ _ _ hk
   rw [evalOpsX_cons] at hk
   obtain ⟨y'',hy'',hk⟩:=hk
   rw [res_put h1,hy'] at hy''
   injection hy'' with hy''
   subst hy''
   exact hk
  have lx:∀ k,dy = some k → k ∉ slotsX (xsOf x'):=by
   intro k e hk
   rcases res_cases hx' with rfl | rfl
   ·exact h2 k e (looks_sub hk)
   ·simp [skipOp,xsOf,slotsX] at hk
  have ly:∀ k,dx = some k → k ∉ slotsX (xsOf y'):=by
   intro k e hk
   rcases res_cases hy' with rfl | rfl
   ·exact h1 k e (looks_sub hk)
   ·simp [skipOp,xsOf,slotsX] at hk
  have hB:evalOp P y' dy F L ρ (fun F1 L1 ρ1 => evalOp P x' dx F1 L1 ρ1 (fun F2 L2 ρ2 => evalOpsX P PX fb rest F2 L2 ρ2 K)):=by
   by_cases hskip:y' = skipOp
   ·subst hskip
    simp only [skipOp,evalOp,outV,ev]
    exact evalOp_env (K:=fun F2 L2 ρ2 => evalOpsX P PX fb rest F2 L2 ρ2 K) (u:=.v undef) okx' lx h3 hA
   ·have ey:y' = y:=by rcases res_cases hy' with h | h; exact h; exact absurd h hskip
    subst ey
    refine swapOp hr ?_ ly lx h3 hvd hA
    rcases res_cases hx' with rfl | rfl
    ·exact hc
    ·simp only [okD,Bool.or_eq_true] at oky
     rcases oky with oky | oky
     ·simp only [clsOk,oky,Bool.and_true,Bool.or_eq_true]; exact .inl (.inl (.inl (.inl (.inl rfl))))
     ·simp only [clsOk,oky,Bool.and_true,Bool.or_eq_true]; exact .inl (.inr rfl)
  rw [evalOpsX_cons]
  refine ⟨y',hy',evalOp_shape oky' hr hvd hB ?_⟩
  rintro F1 L1 ρ1 ⟨v,rfl⟩ _ _ _ hk
  rw [evalOpsX_cons]
  exact ⟨x',by rw [res_put h2]; exact hx',hk⟩
theorem slotsX_sub {f:X} {args:List X} {k:Nat} (h:k ∈ slotsX args):k ∈ slotsX (f :: args):=by
 cases f <;> simp [slotsX,h]
theorem xTgt_put {d:Option Nat} {v:SV} {o:SOp} (h:∀ k,d = some k → k ∉ slotsXC o):xTgt P L (put d v ρ) o = xTgt P L ρ o:=by
 cases o <;> try rfl
 ·rename_i f args
  simp only [xTgt,evals_putN h]
 ·rename_i f args
  have h1:∀ k,d = some k → k ∉ slotsX args:=fun k e hk => h k e (slotsX_sub hk)
  have h2:ev (put d v ρ) f = ev ρ f:=ev_put h f (by simp)
  simp only [xTgt,evals_putN h1,h2]
theorem xTgt_keep (hb:BoxKeep L L') (hvd:Vd L ρ) (o:SOp):xTgt P L' ρ o = xTgt P L ρ o:=by
 cases o <;> try rfl
 ·simp only [xTgt,evals_keep hb hvd]
 ·simp only [xTgt,evals_keep hb hvd]
theorem swapOX {dx dy:Option Nat} {x y:SOp} {gx:Option (Nat × Bool)} {rest:List SStep} (hp:pairOkX fb (.op dx x gx) (.pc dy y none) = true) (hr:Real F L) (hvd:Vd L ρ)
  (h:evalOpsX P PX fb (.op dx x gx :: .pc dy y none :: rest) F L ρ K):evalOpsX P PX fb (.pc dy y none :: .op dx x gx :: rest) F L ρ K:=by
 simp only [pairOkX,Bool.and_eq_true] at hp
 obtain ⟨⟨⟨⟨_,hfl⟩,h1⟩,h2⟩,h3⟩:=hp
 have h1:=optNot_eq h1
 have h2:=optNot_eq h2
 have h3:=optNe_eq h3
 have h3':∀ k,dy = some k → dx ≠ some k:=fun k e e' => h3 k e' e
 obtain ⟨x',hx',h⟩:=h
 have hfl':(flD x' || flK fb x') = true:=by rcases res_cases hx' with rfl | rfl; exact hfl; rfl
 rw [evalOp_simple (flD_simple hfl')] at h
 obtain ⟨v,hT,hv⟩:=(outV_one (flD_simple hfl')).ex _ h
 simp only [evalOpsX,xTgt_put h1] at hv ⊢
 split at hv
 case h_2 => exact hv.elim
 refine hv.imp fun F' L' u hle hbk _ hfb hr' hk => ⟨x',by rw [res_put h2]; exact hx',?_⟩
 rw [evalOp_simple (flD_simple hfl')]
 have lx:∀ k,dy = some k → k ∉ slotsX (xsOf x'):=by
  intro k e hk
  rcases res_cases hx' with rfl | rfl
  ·exact h2 k e (looks_sub hk)
  ·simp [skipOp,xsOf,slotsX] at hk
 have hT2:=outV_up (flD_simple hfl') (Frz.le_refl F') (alike_env (L:=L') (ρ:=ρ) (v:=.v u) lx) (outV_fl hfl' hfb hle hbk hvd hT)
 refine (outV_one (flD_simple hfl')).mono _ _ (fun v' e => ?_) hT2
 subst e
 rw [put_comm h3]
 exact hk
theorem swapXA {dx:Option Nat} {k:Nat} {t:TypeId} {zs:List Value} {x:SOp} {rest:List SStep} (hp:pairOkX fb (.pc dx x none) (.op (some k) (.allocD t zs) none) = true) (hn:L.get k = none) (hr:Real F L) (hvd:Vd L ρ)
  (h:evalOpsX P PX fb (.pc dx x none :: .op (some k) (.allocD t zs) none :: rest) F L ρ K):evalOpsX P PX fb (.op (some k) (.allocD t zs) none :: .pc dx x none :: rest) F L ρ K:=by
 simp only [pairOkX,Bool.and_eq_true] at hp
 have h1:=optNot_eq hp.1.2
 have h3:=optNe_eq hp.2
 simp only [evalOpsX,res,Option.some.injEq,exists_eq_left',evalOp,hn] at h ⊢
 intro g hrg
 split at h
 case h_2 => exact h.elim
 rename_i _ _ f vs htg _
 obtain ⟨ks,l,R,Pp,e1,e2,e0,e3,e4,e5⟩:=h
 have hk:k ∉ ks:=by
  intro hk
  obtain ⟨hl,hg⟩:=sub_get e1
  obtain ⟨i,hi⟩:=List.getElem?_of_mem hk
  have:=hg i k hi
  rw [hn] at this
  have h5:=(List.getElem?_eq_some_iff.1 hi).1
  have h6:=List.getElem?_eq_none_iff.1 this.symm
  omega
 have hkeep:BoxKeep L (L.set k (.box g t zs)):=fun j g' t' cs e => ⟨cs,Keeps.new hn j g' t' cs e⟩
 have ea:xTgt P (L.set k (.box g t zs)) (put (some k) (.own k 0) ρ) x = some (f,vs):=by
  rw [xTgt_put h1,xTgt_keep hkeep hvd,htg]
 rw [ea]
 refine ⟨ks,l,R,Pp,by rw [sub_set hk]; exact e1,e2,e0,e3,fun v L' hb => e4 v L' fun j g' t' cs e => hb j g' t' cs (Keeps.new hn j g' t' cs e),fun v F' Lo hF hR => ?_⟩
 obtain ⟨a,b,c⟩:=e5 v F' Lo hF hR
 refine ⟨a,b,fun hr' => ?_⟩
 rw [puts_set_comm ks Lo L hk] at hr' ⊢
 obtain ⟨k1,k2,_⟩:=puts_keep e1 e2 a b
 have hn':=k2 k hn
 have c:=c (hr'.down (Frz.le_refl _) hr'.glob (part_set hn'))
 simp only [hn'] at c
 rw [← put_comm (d:=some k) (fun j e e' => h3 j e' e)]
 exact c g hr'
theorem swapStepX {x y:SStep} {rest:List SStep} (hp:pairOkX fb x y = true) (hn:∀ k,newK y = some k → L.get k = none) (hr:Real F L) (hvd:Vd L ρ) (h:evalOpsX P PX fb (x :: y :: rest) F L ρ K):evalOpsX P PX fb (y :: x :: rest) F L ρ K:=by
 unfold pairOkX at hp
 split at hp
 ·exact swapOO hp hr hvd h
 ·exact swapOX hp hr hvd h
 ·exact swapXA hp (hn _ rfl) hr hvd h
 ·cases hp
theorem newK_dst {y:SStep} {k:Nat} (h:newK y = some k):dstS y = some k:=by
 unfold newK at h
 split at h
 ·exact h
 ·cases h
theorem pairX_ne {x y:SStep} (hp:pairOkX fb x y = true) {k:Nat} (h:newK y = some k):dstS x ≠ some k:=by
 have hd:=newK_dst h
 unfold pairOkX at hp
 split at hp
 ·simp only [pairOk,Bool.and_eq_true] at hp
  intro e
  exact optNe_eq hp.2 k e hd
 ·simp [newK] at h
 ·simp only [Bool.and_eq_true] at hp
  intro e
  exact optNe_eq hp.2 k e hd
 ·cases hp
theorem evalOpsX_head {x:SStep} {rest rest':List SStep} (hx:xOk x = true) (hr:Real F L) (hvd:Vd L ρ) (h:evalOpsX P PX fb (x :: rest) F L ρ K)
  (hk:∀ F1 L1 ρ1,F.le F1 → Real F1 L1 → Vd L1 ρ1 → (∀ j,dstS x ≠ some j → L.get j = none → L1.get j = none) → evalOpsX P PX fb rest F1 L1 ρ1 K → evalOpsX P PX fb rest' F1 L1 ρ1 K):evalOpsX P PX fb (x :: rest') F L ρ K:=by
 cases x with
 | frz k => cases hx
 | op d o g =>
  obtain ⟨o',ho',h⟩:=h
  have ok':okD o' = true:=by rcases res_cases ho' with rfl | rfl; exact hx; rfl
  exact ⟨o',ho',evalOp_shapeN ok' hr hvd h fun F1 L1 ρ1 _ h2 h3 h4 h5 h6 => hk F1 L1 ρ1 h2 h3 h4 h5 h6⟩
 | pc d o g =>
  unfold evalOpsX at h ⊢
  split at h
  ·rename_i f args
   refine h.imp fun F' L' v h1 h2 h3 _ h4 h5 => hk _ _ _ h1 h4 ((h2.vd hvd).putv d v) (fun j _ e => h3 j e) h5
  ·exact h.elim
theorem frontStepX {y:SStep} {s:List SStep}:∀ (p:List SStep),(∀ x ∈ p,pairOkX fb x y = true) → (∀ x ∈ p,xOk x = true) → ∀ {F:Frz} {L:Loc} {ρ:Env},(∀ k,newK y = some k → L.get k = none) → Real F L → Vd L ρ → evalOpsX P PX fb (p ++ y :: s) F L ρ K → evalOpsX P PX fb (y :: (p ++ s)) F L ρ K
 | [],_,_,F,L,ρ,_,_,_,h => h
 | x :: p,hp,hx,F,L,ρ,hn,hr,hvd,h => by
  refine swapStepX (hp x (by simp)) hn hr hvd ?_
  refine evalOpsX_head (hx x (by simp)) hr hvd h fun F1 L1 ρ1 _ hr1 hvd1 hfr hk => ?_
  exact frontStepX p (fun z hz => hp z (by simp [hz])) (fun z hz => hx z (by simp [hz])) (fun k e => hfr k (pairX_ne (hp x (by simp)) e) (hn k e)) hr1 hvd1 hk
end
section
variable {P:Program} {PX:Loc → Value → Prop} {fb:List Nat} {K:Kont} {Q:Exit → Act → World → Prop} {ops:Array Oper}
theorem nodup_inj {ks:List Nat} (hn:ks.Nodup) {i j:Nat} {hi:i < ks.length} {hj:j < ks.length} (h:ks[i] = ks[j]):i = j:=by
 rw [List.nodup_iff_pairwise_ne,List.pairwise_iff_getElem] at hn
 rcases Nat.lt_trichotomy i j with hlt | he | hlt
 ·exact absurd h (hn i j hi hj hlt)
 ·exact he
 ·exact absurd h.symm (hn j i hj hi hlt)
theorem puts_same {L:Loc} {ks:List Nat} {Lo:List Own} (hn:ks.Nodup) (hlen:ks.length = Lo.length):((L.dels ks).puts ks Lo).sameAs (L.puts ks Lo):=by
 intro j
 rcases puts_get ks Lo L j hn hlen with ⟨q1,q2⟩ | ⟨i,q1,q2,q3⟩ <;> rcases puts_get ks Lo (L.dels ks) j hn hlen with ⟨p1,p2⟩ | ⟨i',p1,p2,p3⟩
 ·rw [q1,p1,dels_get,if_neg q2]
 ·exact absurd (List.mem_of_getElem? p1) q2
 ·exact absurd (List.mem_of_getElem? q1) p2
 ·have:i = i':=by
   have h1:=(List.getElem?_eq_some_iff.1 q1)
   have h2:=(List.getElem?_eq_some_iff.1 p1)
   obtain ⟨h1,h1'⟩:=h1
   obtain ⟨h2,h2'⟩:=h2
   exact nodup_inj hn (h1'.trans h2'.symm)
  subst this
  rw [q2,p2]
theorem CallXDPt.toX {f:Nat} {args:List Value} {F:Frz} {L:Loc} {K:Frz → Loc → Value → Prop} (h:CallXDPt P PX fb f args F L K):CallXPt P PX f args F L fun F' L' v => ∃ L2,L'.sameAs L2 ∧ (Real F' L2 → K F' L2 v):=by
 obtain ⟨ks,l,R,Pp,h1,h2,h0,h3,h4,h5⟩:=h
 refine ⟨ks,ks,l,R,Pp,h1,h2,h2,fun k hk => .inl hk,h3,h4,fun v F' Lo hF hR => ?_⟩
 obtain ⟨a,b,c⟩:=h5 v F' Lo hF hR
 obtain ⟨k1,k2,_⟩:=puts_keep h1 h2 a b
 refine ⟨a,fun k g t cs _ e => ?_,_,puts_same h2 a,c⟩
 rw [← puts_same h2 a]
 exact k1 k g t cs e
theorem xcall_sound {own:Bool} {o:Oper} {s:SOp} {f:Nat} {vs:List Value} {F:Frz} {L:Loc} {ρ:Env} {a:Act} {w:World} {K:Kont} (hs:St F L w) (he:EnvOk L ρ a) (hd:∀ k,o.dst = some k → k < a.tmps.size) (hl:lowOp P own o.op = some s) (hx:xTgt P L ρ s = some (f,vs))
  (hK:CallXPt P PX f vs F L fun F' L' v => K F' L' (put o.dst (.v v) ρ))
  (hQ:∀ v ch w' F' L',Chn v ch → St F' L' w' → Step F L w F' L' w' → PX L' v → Q (.panic ch) a w'):o.wp P a w (Next1 F L w a K) Q:=by
 cases s with
 | call f' args =>
  simp only [xTgt,Option.some.injEq,Prod.mk.injEq] at hx
  obtain ⟨rfl,rfl⟩:=hx
  exact pcall_sound hs he hd hl hK hQ
 | callV x args =>
  simp only [xTgt] at hx
  split at hx
  case h_2 => cases hx
  rename_i f' fi ca hv
  simp only [Option.some.injEq,Prod.mk.injEq] at hx
  obtain ⟨rfl,rfl⟩:=hx
  exact pcallV_sound hs he hd hl hv hK hQ
 | _ => cases hx
theorem step_anyX {A:Ann} {i:Nat} {s:SStep} {rest:List SStep} {F:Frz} {L:Loc} {ρ:Env} {a:Act} {w:World} {KK:Act → World → Prop} (hi:i < ops.size) (hl:lowD P A ops i = some s) (hx:xOk s = true) (hs:St F L w) (he:EnvOk L ρ a) (hn:a.tmps.size = A.n)
  (hK:evalOpsX P PX fb (s :: rest) F L ρ K)
  (hQ:∀ a' w' F' L' ρ',St F' L' w' → EnvOk L' ρ' a' → a'.tmps.size = A.n → a'.defers = a.defers → Step F L w F' L' w' → (∀ j,((ops[i]?).bind (·.dst)) ≠ some j → a'.tmps.getD j undef = a.tmps.getD j undef) →
   (∀ j,dstS s ≠ some j → L.get j = none → L'.get j = none) → evalOpsX P PX fb rest F' L' ρ' K → KK a' w')
  (hP:∀ v ch w' F' L',Chn v ch → St F' L' w' → Step F L w F' L' w' → PX L' v → Q (.panic ch) a w') :
  wpOp P ops Q i KK a w:=by
 cases s with
 | frz k => cases hx
 | op d o g =>
  obtain ⟨o',ho',h⟩:=hK
  have ok':okD o' = true:=by rcases res_cases ho' with rfl | rfl; exact hx; rfl
  have h2:evalOps P [.op d o g] F L ρ (fun F' L' ρ' => (∀ j,d ≠ some j → L.get j = none → L'.get j = none) ∧ evalOpsX P PX fb rest F' L' ρ' K) :=
   evalOps_cons.2 ⟨o',ho',evalOp_shapeN ok' ⟨w,hs⟩ he.vd h fun F1 L1 ρ1 _ _ _ _ h5 h6 => ⟨h5,h6⟩⟩
  exact step_any hi hl hs he hn h2 fun a' w' F' L' ρ' g1 g2 g3 g4 g5 g6 g7 => hQ a' w' F' L' ρ' g1 g2 g3 g4 g5 g6 g7.1 g7.2
 | pc d o g =>
  unfold evalOpsX at hK
  split at hK
  case h_2 => exact hK.elim
  rename_i f vs htg
  unfold lowD at hl
  split at hl
  case h_1 => cases hl
  rename_i o hoi
  split at hl
  case h_2 => cases hl
  rename_i g s0 hg hop hdst
  rename_i o0 _ _ _ _ _ _
  have hex:o.dst = d ∧ s0 = o0 ∧ g = none:=by
   split at hl
   ·split at hl
    ·injection hl with hl
     injection hl with q1 q2 q3
     exact ⟨q1,q2,rfl⟩
    ·injection hl with hl
     injection hl with q1 q2 q3
     exact ⟨q1,q2,rfl⟩
    ·cases hl
   ·split at hl
    ·split at hl
     ·cases hl
     ·cases hl
    ·split at hl
     ·split at hl <;> cases hl
     ·cases hl
  obtain ⟨rfl,rfl,rfl⟩:=hex
  have hd:∀ k,o.dst = some k → k < a.tmps.size:=by
   intro k hk
   rw [hk] at hdst
   rw [hn]
   have h2:Nat.blt k A.n = true:=hdst
   simpa using h2
  have hdi:(ops[i]?).bind (·.dst) = o.dst:=by rw [hoi]; rfl
  rw [hdi] at hQ
  simp only [wpOp,hoi]
  have hgd:o.guard = none:=by
   cases e:o.guard with
   | none => rfl
   | some p => obtain ⟨j,b⟩:=p; rw [e] at hg; simp only [lowGuard] at hg; split at hg <;> cases hg
  rw [if_pos (by simp [Region.wanted,hgd])]
  refine .inl ?_
  have hk2:=hK.imp (K':=fun F' L' v => (∀ j,L.get j = none → L'.get j = none) ∧ evalOpsX P PX fb rest F' L' (put o.dst (.v v) ρ) K) fun F' L' v _ _ h3 _ _ h5 => ⟨h3,h5⟩
  have:=xcall_sound (K:=fun F' L' ρ' => ∃ L2,L'.sameAs L2 ∧ (Real F' L2 → (∀ j,L.get j = none → L2.get j = none) ∧ evalOpsX P PX fb rest F' L2 ρ' K)) hs he hd hop htg hk2.toX hP
  refine Oper.wp_mono ?_ (wp_frame (asg:=[]) this)
  rintro a' w' ⟨⟨F',L',ρ',g1,g2,g3,g4,g5,L2,g6,g7⟩,hfr⟩
  have s1:St F' L2 w':=g1.part fun k o e => by rw [← g6 k]; exact e
  obtain ⟨g8,g9⟩:=g7 ⟨w',s1⟩
  exact hQ a' w' F' L2 ρ' s1 (g2.same g6) (by rw [g3,hn]) g4 (g5.sameL g6) hfr (fun j _ e => g8 j e) g9
def pairsOkX (fb:List Nat) (cl:List (List Nat)):List (Nat × SStep) → Bool
 | [] => true
 | (x,sx) :: l => l.all (fun p => pairOkX fb sx p.2 || mem? (clAt cl p.1) x) && pairsOkX fb cl l
def dsL (ss:List SStep):List Nat:=ss.filterMap dstS
def fbOf (ss:List SStep):List Nat:=ss.filterMap fun s => match s with | .op _ (.loadK key _ _ _) _ => some key | _ => none
def drawOkX (P:Program) (ops:Array Oper) (is:List Nat) (cl:List (List Nat)) (ss:List SStep):Bool :=
 P.follows .mixedOrders && clOk ops cl && nodup? is && Nat.beq is.length ops.size && is.all (fun i => Nat.blt i ops.size) && (List.range ops.size).all (mem? is) && pairsOkX (fbOf ss) cl (is.zip ss) && ss.all xOk && nodup? (dsL ss)
theorem pairsOkX_del {cl:List (List Nat)}:∀ {p q:List (Nat × SStep)} {y:Nat × SStep},pairsOkX fb cl (p ++ y :: q) = true → pairsOkX fb cl (p ++ q) = true ∧ ∀ x ∈ p,pairOkX fb x.2 y.2 = true ∨ x.1 ∈ clAt cl y.1
 | [],q,y,h => by
  obtain ⟨y1,y2⟩:=y
  simp only [List.nil_append,pairsOkX,Bool.and_eq_true] at h ⊢
  exact ⟨h.2,fun x hx => by cases hx⟩
 | (x1,x2) :: p,q,y,h => by
  simp only [List.cons_append,pairsOkX,Bool.and_eq_true] at h ⊢
  obtain ⟨h1,h2⟩:=h
  obtain ⟨h3,h4⟩:=pairsOkX_del h2
  have h1':=List.all_eq_true.1 h1
  refine ⟨⟨List.all_eq_true.2 fun z hz => h1' z ?_,h3⟩,fun x hx => ?_⟩
  ·rcases List.mem_append.1 hz with hz | hz
   ·exact List.mem_append.2 (.inl hz)
   ·exact List.mem_append.2 (.inr (List.mem_cons_of_mem _ hz))
  ·rcases List.mem_cons.1 hx with rfl | hx
   ·have:=h1' y (List.mem_append.2 (.inr (by simp)))
    simp only [Bool.or_eq_true] at this
    rcases this with h | h
    ·exact .inl h
    ·exact .inr (mem?_eq.1 h)
   ·exact h4 x hx
theorem dsL_del {p q:List SStep} {y:SStep} (h:(dsL (p ++ y :: q)).Nodup):(dsL (p ++ q)).Nodup ∧ ∀ k,dstS y = some k → ∀ z ∈ p ++ q,newK z ≠ some k:=by
 have e:dsL (p ++ y :: q) = dsL p ++ ((dstS y).toList ++ dsL q):=by
  unfold dsL
  rw [List.filterMap_append,List.filterMap_cons]
  cases dstS y <;> rfl
 rw [e] at h
 have h2:(dsL p ++ dsL q).Nodup:=by
  refine List.Sublist.nodup ?_ h
  exact List.Sublist.append (List.Sublist.refl _) (List.sublist_append_right _ _)
 refine ⟨by unfold dsL at h2 ⊢; rw [List.filterMap_append]; exact h2,fun k hk z hz e2 => ?_⟩
 have hd:=newK_dst e2
 rw [hk] at h
 have h3:k ∉ dsL p ++ dsL q:=by
  have:(dsL p ++ k :: dsL q).Nodup:=h
  have:=(List.perm_middle.nodup_iff).1 this
  rw [List.nodup_cons] at this
  exact this.1
 apply h3
 rcases List.mem_append.1 hz with hz | hz
 ·exact List.mem_append.2 (.inl (List.mem_filterMap.2 ⟨z,hz,hd⟩))
 ·exact List.mem_append.2 (.inr (List.mem_filterMap.2 ⟨z,hz,hd⟩))
theorem lowD_dst {A:Ann} {i:Nat} {s:SStep} (hl:lowD P A ops i = some s):(ops[i]?).bind (·.dst) = dstS s:=by
 unfold lowD at hl
 split at hl
 case h_1 => cases hl
 rename_i o hoi
 rw [hoi]
 split at hl
 case h_2 => cases hl
 split at hl
 ·split at hl
  ·injection hl with hl; subst hl; rfl
  ·injection hl with hl; subst hl; rfl
  ·cases hl
 ·split at hl
  ·split at hl
   ·injection hl with hl; subst hl; rfl
   ·cases hl
  ·split at hl
   ·split at hl
    ·injection hl with hl; subst hl; rfl
    ·cases hl
   ·cases hl
theorem any_soundX {A:Ann} {cl:List (List Nat)} (hcl:clOk ops cl = true):∀ (fuel:Nat) (rem:List Nat) (ss:List SStep) (listed:Array Bool) (F:Frz) (L:Loc) (ρ:Env) (a:Act) (w:World),
  lowRegD P A ops rem = some ss → listed.size = ops.size → rem.Nodup → (∀ i,i ∈ rem ↔ i < ops.size ∧ listed.getD i true = false) → rem.length ≤ fuel → pairsOkX fb cl (rem.zip ss) = true →
  (∀ i,i < ops.size → listed.getD i true = true → ∀ z ∈ direct ops i,listed.getD z true = true) →
  (∀ s ∈ ss,xOk s = true) → (dsL ss).Nodup → (∀ s ∈ ss,∀ k,newK s = some k → L.get k = none) →
  St F L w → EnvOk L ρ a → a.tmps.size = A.n → evalOpsX P PX fb ss F L ρ K →
  (∀ a' w',Next2 A.n F L w a (dstsOf ops (List.range ops.size)) K a' w' → Q .normal a' w') →
  (∀ v ch a' w' F' L',Chn v ch → St F' L' w' → Step F L w F' L' w' → a'.tmps.size = A.n → a'.defers = a.defers → (∀ j,j ∉ dstsOf ops (List.range ops.size) → a'.tmps.getD j undef = a.tmps.getD j undef) → PX L' v → Q (.panic ch) a' w') → wpAny P .any ops Q fuel listed a w:=by
 have edgeLt:∀ y z,y < ops.size → z ∈ direct ops y → z < y:=by
  intro y z hy hz
  have h:=List.all_eq_true.1 hcl y (List.mem_range.2 hy)
  simp only [clOkAt,Bool.and_eq_true] at h
  have h3:Nat.blt z y = true:=List.all_eq_true.1 h.1 z hz
  simpa using h3
 intro fuel
 induction fuel with
 | zero =>
  intro rem ss listed F L ρ a w hl hsz hnd hrem hlen hp hclosed hxs hds hnk hs he hn hK hQ hP
  have:rem = []:=List.eq_nil_of_length_eq_zero (by omega)
  subst this
  simp only [lowRegD,Option.some.injEq] at hl
  subst hl
  refine ⟨?_,hQ a w ⟨F,L,ρ,hs,he,hn,rfl,Step.refl _ _ _,fun _ _ => rfl,hK⟩⟩
  apply List.eq_nil_iff_forall_not_mem.2
  intro i hi
  rw [mem_ready] at hi
  obtain ⟨h1,o,h2,_⟩:=hi
  have:=(hrem i).2 ⟨(Array.getElem?_eq_some_iff.1 h2).1,h1⟩
  cases this
 | succ fuel ih =>
  intro rem ss listed F L ρ a w hl hsz hnd hrem hlen hp hclosed hxs hds hnk hs he hn hK hQ hP
  refine ⟨fun hr => ?_,fun y hy => ?_⟩
  ·have:rem = []:=by
    refine Classical.byContradiction fun hne => ?_
    obtain ⟨y,h1,h2⟩:=min_mem hne
    obtain ⟨h3,h4⟩:=(hrem y).1 h1
    have hmem:y ∈ Region.ready .any ops listed:=by
     rw [mem_ready]
     refine ⟨h4,ops[y],Array.getElem?_eq_getElem h3,fun e he1 he2 => ?_⟩
     have hz:e.on ∈ direct ops y:=(direct_mem (Array.getElem?_eq_getElem h3)).2 ⟨e,he1,he2,rfl⟩
     have hlt:=edgeLt y e.on h3 hz
     rw [getD_any (by omega) false true]
     cases hd:listed.getD e.on true with
     | true => rfl
     | false =>
      have:=h2 e.on ((hrem e.on).2 ⟨by omega,hd⟩)
      omega
    rw [hr] at hmem
    cases hmem
   subst this
   simp only [lowRegD,Option.some.injEq] at hl
   subst hl
   exact hQ a w ⟨F,L,ρ,hs,he,hn,rfl,Step.refl _ _ _,fun _ _ => rfl,hK⟩
  ·rw [mem_ready] at hy
   obtain ⟨h1,o,ho,hdeps⟩:=hy
   have hylt:=(Array.getElem?_eq_some_iff.1 ho).1
   have hyrem:=(hrem y).2 ⟨hylt,h1⟩
   obtain ⟨p,q,rfl⟩:=List.append_of_mem hyrem
   obtain ⟨hss,hget⟩:=lowRegD_get hl
   obtain ⟨sp,sy,sq,rfl,hspl,hsy,hl'⟩:=hget p q y rfl
   have hzip:(p ++ y :: q).zip (sp ++ sy :: sq) = p.zip sp ++ (y,sy) :: q.zip sq:=by
    rw [List.zip_append hspl.symm]; rfl
   rw [hzip] at hp
   obtain ⟨hp1,hp2⟩:=pairsOkX_del hp
   have hdir:∀ z ∈ direct ops y,listed.getD z true = true:=by
    intro z hz
    have hlt:=edgeLt y z hylt hz
    obtain ⟨e,he1,he2,rfl⟩:=(direct_mem ho).1 hz
    rw [getD_any (by omega) true false]
    exact hdeps e he1 he2
   have hfront:∀ sx ∈ sp,pairOkX fb sx sy = true:=by
    intro sx hsx
    obtain ⟨k,hk⟩:=List.getElem?_of_mem hsx
    have hkl:=(List.getElem?_eq_some_iff.1 hk).1
    have hpk:p[k]? = some (p[k]'(by omega)):=List.getElem?_eq_getElem (by omega)
    have hm:(p[k]'(by omega),sx) ∈ p.zip sp:=List.mem_of_getElem? (i:=k) (by rw [List.getElem?_zip_eq_some]; exact ⟨hpk,hk⟩)
    rcases hp2 _ hm with h | h
    ·exact h
    ·exfalso
     have hd:=closed_done hcl (done:=fun z => listed.getD z true = true) hclosed y hylt hdir _ h
     have hin:p[k]'(by omega) ∈ p ++ y :: q:=List.mem_append.2 (.inl (List.mem_of_getElem? hpk))
     have:=((hrem _).1 hin).2
     simp only at hd
     rw [hd] at this
     cases this
   have hK':=frontStepX sp hfront (fun z hz => hxs z (by simp [hz])) (fun k e => hnk sy (by simp) k e) ⟨w,hs⟩ he.vd hK
   obtain ⟨hds',hdy⟩:=dsL_del hds
   have hyD:(ops[y]?).bind (·.dst) = dstS sy:=lowD_dst hsy
   refine step_anyX hylt hsy (hxs sy (by simp)) hs he hn hK' ?_ (fun v ch w' F' L' hc h1 h2 h3 => hP v ch a w' F' L' hc h1 h2 hn rfl (fun _ _ => rfl) h3)
   intro a' w' F' L' ρ' g1 g2 g3 g4 g5 g6 g8 g7
   have hnd':(p ++ q).Nodup ∧ y ∉ p ++ q:=by
    have:=(List.perm_middle.nodup_iff).1 hnd
    rw [List.nodup_cons] at this
    exact ⟨this.2,this.1⟩
   have hset:∀ i,(listed.setIfInBounds y true).getD i true = if i = y then true else listed.getD i true:=by
    intro i
    simp only [Array.getD_eq_getD_getElem?,Array.getElem?_setIfInBounds]
    by_cases hi:y = i
    ·subst hi; rw [if_pos rfl,if_pos rfl]; simp [hsz,hylt]
    ·rw [if_neg hi,if_neg (fun h => hi h.symm)]
   refine ih (p ++ q) (sp ++ sq) _ F' L' ρ' a' w' hl' (by simp [hsz]) hnd'.1 (fun i => ?_) (by simp at hlen ⊢; omega) ?_ ?_ (fun z hz => hxs z (by rcases List.mem_append.1 hz with h | h <;> simp [h])) hds' (fun z hz k e => g8 k (fun e2 => hdy k e2 z hz e) (hnk z (by rcases List.mem_append.1 hz with h | h <;> simp [h]) k e)) g1 g2 g3 g7 ?_ ?_
   ·rw [hset]
    have h0:=hrem i
    constructor
    ·intro hi
     have hne:i ≠ y:=fun e => hnd'.2 (e ▸ hi)
     rw [if_neg hne]
     refine h0.1 ?_
     rcases List.mem_append.1 hi with h | h
     ·exact List.mem_append.2 (.inl h)
     ·exact List.mem_append.2 (.inr (List.mem_cons_of_mem _ h))
    ·rintro ⟨hi1,hi2⟩
     split at hi2
     ·cases hi2
     ·rename_i hne
      have:=h0.2 ⟨hi1,hi2⟩
      rcases List.mem_append.1 this with h | h
      ·exact List.mem_append.2 (.inl h)
      ·rcases List.mem_cons.1 h with h | h
       ·exact absurd h hne
       ·exact List.mem_append.2 (.inr h)
   ·rw [List.zip_append hspl.symm]; exact hp1
   ·intro i hi hd z hz
    rw [hset] at hd ⊢
    split
    ·rfl
    ·split at hd
     ·rename_i h; subst h; exact hdir z hz
     ·exact hclosed i hi hd z hz
   ·rintro a'' w'' ⟨F'',L'',ρ'',k1,k2,k3,k4,k5,k6,k7⟩
    refine hQ a'' w'' ⟨F'',L'',ρ'',k1,k2,k3,k4.trans g4,g5.trans k5,fun j hj => ?_,k7⟩
    rw [k6 j hj,g6 j]
    intro e
    apply hj
    have:∀ (is:List Nat),y ∈ is → j ∈ dstsOf ops is:=by
     intro is
     induction is with
     | nil => intro h; cases h
     | cons x is ihx =>
      intro h
      simp only [dstsOf]
      rcases List.mem_cons.1 h with rfl | h
      ·rw [e]; simp
      ·split
       ·exact List.mem_cons_of_mem _ (ihx h)
       ·exact ihx h
    exact this _ (List.mem_range.2 hylt)
   ·intro v ch a'' w'' F'' L'' kc k1 k2 k3 k4 k5 k6
    refine hP v ch a'' w'' F'' L'' kc k1 (g5.trans k2) k3 (k4.trans g4) (fun j hj => ?_) k6
    rw [k5 j hj,g6 j]
    intro e
    apply hj
    have:∀ (is:List Nat),y ∈ is → j ∈ dstsOf ops is:=by
     intro is
     induction is with
     | nil => intro h; cases h
     | cons x is ihx =>
      intro h
      simp only [dstsOf]
      rcases List.mem_cons.1 h with rfl | h
      ·rw [e]; simp
      ·split
       ·exact List.mem_cons_of_mem _ (ihx h)
       ·exact ihx h
    exact this _ (List.mem_range.2 hylt)
theorem draw_soundX {A:Ann} {r:Nat} {is:List Nat} {cl:List (List Nat)} {ss:List SStep} {F:Frz} {L:Loc} {ρ:Env} {a:Act} {w:World} (hl:lowRegD P A ops is = some ss) (hc:drawOkX P ops is cl ss = true)
  (hs:St F L w) (he:EnvOk L ρ a) (hn:a.tmps.size = A.n) (hnk:∀ s ∈ ss,∀ k,newK s = some k → L.get k = none) (hK:evalOpsX P PX (fbOf ss) ss F L ρ K) (hQ:∀ a' w',Next2 A.n F L w a (dstsOf ops (List.range ops.size)) K a' w' → Q .normal a' w')
  (hP:∀ v ch a' w' F' L',Chn v ch → St F' L' w' → Step F L w F' L' w' → a'.tmps.size = A.n → a'.defers = a.defers → (∀ j,j ∉ dstsOf ops (List.range ops.size) → a'.tmps.getD j undef = a.tmps.getD j undef) → PX L' v → Q (.panic ch) a' w') :
  (Code.region r ops true).wp P Q a w:=by
 simp only [drawOkX,Bool.and_eq_true] at hc
 obtain ⟨⟨⟨⟨⟨⟨⟨⟨h1,h2⟩,h3⟩,h4⟩,h5⟩,h7⟩,h6⟩,h8⟩,h9⟩:=hc
 have h3:=nodup?_eq h3
 have h4:=Nat.eq_of_beq_eq_true h4
 have hlt:∀ i ∈ is,i < ops.size:=fun i hi => by
  have h:Nat.blt i ops.size = true:=List.all_eq_true.1 h5 i hi
  simpa using h
 refine wp_region_any h1 ?_
 show wpAny P .any ops Q ops.size (Array.replicate ops.size false) a w.drew
 refine any_soundX h2 ops.size is ss _ F L ρ a w.drew hl (by simp) h3 (fun i => ?_) (by omega) h6 ?_ (List.all_eq_true.1 h8) (nodup?_eq h9) hnk hs.drew he hn hK ?_ ?_
 ·constructor
  ·intro hi
   refine ⟨hlt i hi,?_⟩
   simp [Array.getD_eq_getD_getElem?,hlt i hi]
  ·rintro ⟨hi,_⟩
   exact mem?_eq.1 (List.all_eq_true.1 h7 i (List.mem_range.2 hi))
 ·intro i hi hd'
  simp [Array.getD_eq_getD_getElem?,hi] at hd'
 ·rintro a' w' ⟨F',L',ρ',g1,g2,g3,g4,g5,g6,g7⟩
  refine hQ a' w' ⟨F',L',ρ',g1,g2,g3,g4,?_,g6,g7⟩
  exact ⟨g5.le,g5.os,g5.tape,g5.output,g5.size,g5.same,g5.frz,g5.own⟩
 ·intro v ch a' w' F' L' gc g1 g5 g3 g4 g6 g7
  exact hP v ch a' w' F' L' gc g1 ⟨g5.le,g5.os,g5.tape,g5.output,g5.size,g5.same,g5.frz,g5.own⟩ g3 g4 g6 g7
end
def asgOf:Code → List Nat
 | .region _ ops _ => dstsOf ops (List.range ops.size)
 | .seq a b => asgOf a ++ asgOf b
 | .cond _ a b => asgOf a ++ asgOf b
 | .block _ c | .loop c | .scope c => asgOf c
 | _ => []
def frzD:List Nat → SCode → SCode
 | [],x => x
 | k :: l,x => .seq (.reg (.frz k :: l.map .frz)) x
def allOp:List SStep → Bool
 | [] => true
 | .op _ _ _ :: l => allOp l
 | _ :: _ => false
def low (P:Program) (A:Ann):Code → Option SCode
 | .skip => some .skip
 | .label _ => some .skip
 | .region r ops false => match lowReg P A r ops (List.range ops.size) with | some ss => some (.reg ss) | none => none
 | .region r ops true => match ordAt A.ord r,lowRegD P A ops (ordIs A.ord r) with
  | some (is,cl),some ss => match allOp ss with
   | true => match drawOk P ops is cl ss with
    | true => some (frzD (frzAt A.frz r 0) (.regD ss))
    | false => none
   | false => match drawOkX P ops is cl ss with
    | true => some (.regX ss)
    | false => none
  | _,_ => none
 | .seq a b => match low P A a,low P A b with | some x,some y => some (.seq x y) | _,_ => none
 | .cond c a b => match lowX c,low P A a,low P A b with | some c,some x,some y => some (.cond c x y) | _,_,_ => none
 | .scope c => low P A c
 | .block id c => match low P A c with | some x => some (.block id x) | none => none
 | .loop c => match low P A c with | some x => some (.loop (asgOf c) x) | none => none
 | .exit id => some (.exit id)
 | .ret => some .ret
 | _ => none
section
variable {P:Program} {Q:Exit → Act → World → Prop}
def PNext (n:Nat) (F:Frz) (L:Loc) (w:World) (a:Act) (asg:List Nat) (PX:Loc → Value → Prop) (v:Value) (a':Act) (w':World):Prop :=
 ∃ F' L',St F' L' w' ∧ Step F L w F' L' w' ∧ a'.tmps.size = n ∧ a'.defers = a.defers ∧ (∀ j,j ∉ asg → a'.tmps.getD j undef = a.tmps.getD j undef) ∧ PX L' v
theorem PNext.after {n:Nat} {F F1:Frz} {L L1:Loc} {w w1:World} {a a1:Act} {asg asg1 asg2:List Nat} {PX PX':Loc → Value → Prop} {v:Value} {a':Act} {w':World} (hst:Step F L w F1 L1 w1) (hdf:a1.defers = a.defers) (hfr:∀ j,j ∉ asg1 → a1.tmps.getD j undef = a.tmps.getD j undef)
  (h:PNext n F1 L1 w1 a1 asg2 PX v a' w') (h1:∀ j,j ∈ asg1 → j ∈ asg) (h2:∀ j,j ∈ asg2 → j ∈ asg) (hk:∀ L,PX L v → PX' L v):PNext n F L w a asg PX' v a' w':=by
 obtain ⟨F',L',g1,g2,g3,g4,g5,g6⟩:=h
 exact ⟨F',L',g1,hst.trans g2,g3,g4.trans hdf,fun j hj => by rw [g5 j (fun h => hj (h2 j h)),hfr j (fun h => hj (h1 j h))],hk _ g6⟩
theorem PNext.mono {n:Nat} {F:Frz} {L:Loc} {w:World} {a:Act} {asg asg':List Nat} {PX:Loc → Value → Prop} {v:Value} {a':Act} {w':World} (h:PNext n F L w a asg PX v a' w') (hsub:∀ j,j ∈ asg → j ∈ asg'):PNext n F L w a asg' PX v a' w':=by
 obtain ⟨F',L',g1,g2,g3,g4,g5,g6⟩:=h
 exact ⟨F',L',g1,g2,g3,g4,fun j hj => g5 j (fun h => hj (hsub j h)),g6⟩
def QQ (n:Nat) (F:Frz) (L:Loc) (w:World) (a:Act) (asg:List Nat) (PX:Loc → Value → Prop) (E:Nat → Kont) (R N:Kont):Exit → Act → World → Prop
 | .normal,a',w' => Next2 n F L w a asg N a' w'
 | .exit j,a',w' => Next2 n F L w a asg (E j) a' w'
 | .ret,a',w' => Next2 n F L w a asg R a' w'
 | .panic ch,a',w' => ∃ v,Chn v ch ∧ PNext n F L w a asg PX v a' w'
 | _,_,_ => False
theorem Next2.mono {n:Nat} {F:Frz} {L:Loc} {w:World} {a:Act} {asg asg':List Nat} {K:Kont} {a':Act} {w':World} (h:Next2 n F L w a asg K a' w') (hsub:∀ j,j ∈ asg → j ∈ asg'):Next2 n F L w a asg' K a' w':=by
 obtain ⟨F',L',ρ',h1,h2,h3,h4,h5,h6,h7⟩:=h
 exact ⟨F',L',ρ',h1,h2,h3,h4,h5,fun j hj => h6 j (fun hj' => hj (hsub j hj')),h7⟩
theorem Next2.after {n:Nat} {F F1:Frz} {L L1:Loc} {w w1:World} {a a1:Act} {asg asg1 asg2:List Nat} {K:Kont} {a':Act} {w':World} (hst:Step F L w F1 L1 w1) (hdf:a1.defers = a.defers) (hfr:∀ j,j ∉ asg1 → a1.tmps.getD j undef = a.tmps.getD j undef)
  (h:Next2 n F1 L1 w1 a1 asg2 K a' w') (h1:∀ j,j ∈ asg1 → j ∈ asg) (h2:∀ j,j ∈ asg2 → j ∈ asg):Next2 n F L w a asg K a' w':=by
 obtain ⟨F',L',ρ',g1,g2,g3,g4,g5,g6,g7⟩:=h
 exact ⟨F',L',ρ',g1,g2,g3,g4.trans hdf,hst.trans g5,fun j hj => by rw [g6 j (fun h => hj (h2 j h)),hfr j (fun h => hj (h1 j h))],g7⟩
def resOk (P:Program):List ResultVar → Option (List RV)
 | [] => some []
 | .tmp t :: l => match resOk P l with | some r => some ((t,none) :: r) | none => none
 | .cell a t :: l => match P.underlying t,P.info? t,resOk P l with
  | some d,some i,some r => some ((a,some (match isAggD d with | true => (true,i.size) | false => (false,1))) :: r)
  | _,_,_ => none
def resSem (tmps:Array Value):ResultVar → Sem Value
 | .tmp t => pure (tmps.getD t undef)
 | .cell a t => do loadVar t (← asAddr (tmps.getD a undef))
theorem retV_run {F:Frz} {L:Loc} {ρ:Env} {a:Act} {w:World} (hs:St F L w) (he:EnvOk L ρ a):∀ {l:List ResultVar} {rs:List RV} {K:List Value → Prop},resOk P l = some rs → retV L ρ rs K →
  ∃ vs,(l.mapM (resSem a.tmps)).run P w = .ok vs w ∧ K vs
 | [],rs,K,h,hK => by simp only [resOk,Option.some.injEq] at h; subst h; exact ⟨[],by simp,hK⟩
 | .tmp t :: l,rs,K,h,hK => by
  simp only [resOk] at h
  split at h
  case h_2 => cases h
  rename_i r hr
  injection h with h; subst h
  simp only [retV] at hK
  obtain ⟨vs,h1,h2⟩:=retV_run hs he hr hK
  refine ⟨_,?_,h2⟩
  simp only [List.mapM_cons,resSem,Sem.run_bind,Sem.run_pure,Result.andThen_ok]
  rw [h1]
  simp [he.eq t]
 | .cell t ty :: l,rs,K,h,hK => by
  simp only [resOk] at h
  split at h
  case h_2 => cases h
  rename_i d i r hd hi hr
  injection h with h; subst h
  generalize hag:(match isAggD d with | true => (true,i.size) | false => (false,1):Bool × Nat) = p at hK
  obtain ⟨ag,n⟩:=p
  have hag1:ag = isAggD d:=by cases e:isAggD d <;> rw [e] at hag <;> injection hag with h1 h2 <;> exact h1.symm
  have hn:n = match isAggD d with | true => i.size | false => 1:=by cases e:isAggD d <;> rw [e] at hag <;> injection hag with h1 h2 <;> exact h2.symm
  simp only [retV] at hK
  split at hK
  case h_2 => exact hK.elim
  rename_i k off hev
  split at hK
  case h_2 => exact hK.elim
  rename_i g ty' cs hk
  split at hK
  case h_2 => exact hK.elim
  rename_i hl
  have ht0:=memB_ne hl
  have hl:=len?_eq (memB_eq hl)
  obtain ⟨vs,h1,h2⟩:=retV_run hs he hr hK
  refine ⟨_,?_,h2⟩
  have hbox:=hs.own k _ hk
  have hcell:∀ j v,((cs.drop off).take n)[j]? = some v → w.cell? ((⟨g,off,none⟩:Addr).add j) = some v:=by
   intro j v hv
   rw [add_none,cell_of_box ht0 hbox]
   have hj:j < n:=by
    have:=List.getElem?_eq_some_iff.1 hv
    obtain ⟨h,_⟩:=this
    omega
   rw [List.getElem?_take_of_lt hj,List.getElem?_drop] at hv
   exact hv
  have hy:a.tmps.getD t undef = .pointer (some ⟨g,off,none⟩):=by rw [he.eq t]; simp only [hev,conc,hk]
  have hrun:=run_loadAt hd hi hcell hl hn
  simp only [Instr.loadAt,Instr.sureAddr,Sem.run_bind,Sem.run_pure,Result.andThen_ok] at hrun
  simp only [List.mapM_cons,resSem,hy,asAddr,Sem.run_bind,Sem.run_pure,Result.andThen_ok,hrun]
  rw [h1,hag1]
  simp
theorem results_eq (fn:Func) (tmps:Array Value):results fn tmps = (do let vs ← fn.results.mapM (resSem tmps); pure (if h:vs.size = 1 then vs[0] else .tuple vs)):=by
 unfold results
 have h:(fun (r:ResultVar) => match r with | .tmp t => (pure (tmps.getD t undef):Sem Value) | .cell a t => do loadVar t (← asAddr (tmps.getD a undef))) = resSem tmps:=by
  funext r
  cases r <;> rfl
 rw [← h]
 rfl
def factsOf (P:Program) (A:Ann) (fn:Func):Option (SCode × Nat × List RV × Bool) :=
 match fn.body with
 | some c => match low P A c,resOk P fn.results.toList with
  | some sc,some rs => some (sc,fn.ntmps,rs,fn.name == "runtime.NumGoroutine")
  | _,_ => none
 | none => none
end
inductive G where
 | int (k:IntKind) (n:Int)
 | bool (b:Bool)
 | str (s:ByteArray)
 | sl (sz:Nat) (l:List G)
 | st (l:List G)
mutual
def Rd (F:Frz):G → List Value → Prop
 | .int k n,cs => cs = [.int k n] ∧ (Lit.int k n).wf = true
 | .bool b,cs => cs = [.bool b]
 | .str s,cs => cs = [.string s]
 | .sl sz l,cs => ∃ a c,cs = [.slice a l.length c] ∧ l.length ≤ c ∧ c ≤ maxLen ∧ (a = none → l = [] ∧ c = 0) ∧ RdSl F a sz 0 l
 | .st l,cs => RdAll F l cs
def RdSl (F:Frz) (a:Option Addr) (sz:Nat):Nat → List G → Prop
 | _,[] => True
 | i,x :: l => (∃ es,es.length = sz ∧ FCells F a (i * sz) es ∧ Rd F x es) ∧ RdSl F a sz (i + 1) l
def RdAll (F:Frz):List G → List Value → Prop
 | [],cs => cs = []
 | x :: l,cs => ∃ c1 c2,cs = c1 ++ c2 ∧ Rd F x c1 ∧ RdAll F l c2
end
mutual
theorem Rd.mono {F F':Frz} (hle:F.le F'):∀ {g:G} {cs:List Value},Rd F g cs → Rd F' g cs
 | .int k n,cs,h => h
 | .bool b,cs,h => h
 | .str s,cs,h => h
 | .sl sz l,cs,h => by
  simp only [Rd] at h ⊢
  obtain ⟨a,c,h1,h2,h3,h4,h5⟩:=h
  exact ⟨a,c,h1,h2,h3,h4,RdSl.mono hle h5⟩
 | .st l,cs,h => by
  simp only [Rd] at h ⊢
  exact RdAll.mono hle h
theorem RdSl.mono {F F':Frz} (hle:F.le F') {a:Option Addr} {sz:Nat}:∀ {i:Nat} {l:List G},RdSl F a sz i l → RdSl F' a sz i l
 | _,[],h => by simp only [RdSl]
 | i,x :: l,h => by
  simp only [RdSl] at h ⊢
  obtain ⟨⟨es,h1,h2,h3⟩,h4⟩:=h
  exact ⟨⟨es,h1,h2.mono hle,Rd.mono hle h3⟩,RdSl.mono hle h4⟩
theorem RdAll.mono {F F':Frz} (hle:F.le F'):∀ {l:List G} {cs:List Value},RdAll F l cs → RdAll F' l cs
 | [],cs,h => by simp only [RdAll] at h ⊢; exact h
 | x :: l,cs,h => by
  simp only [RdAll] at h ⊢
  obtain ⟨c1,c2,h1,h2,h3⟩:=h
  exact ⟨c1,c2,h1,Rd.mono hle h2,RdAll.mono hle h3⟩
end
theorem RdSl_iff {F:Frz} {a:Option Addr} {sz:Nat}:∀ {l:List G} {i:Nat},RdSl F a sz i l ↔ ∀ j x,l[j]? = some x → ∃ es,es.length = sz ∧ FCells F a ((i + j) * sz) es ∧ Rd F x es
 | [],i => by simp [RdSl]
 | x :: l,i => by
  simp only [RdSl,RdSl_iff (l:=l)]
  constructor
  ·rintro ⟨h1,h2⟩ j y hy
   cases j with
   | zero => simp only [List.getElem?_cons_zero,Option.some.injEq] at hy; subst hy; simpa using h1
   | succ j =>
    simp only [List.getElem?_cons_succ] at hy
    have:=h2 j y hy
    rwa [show i + 1 + j = i + (j + 1) by omega] at this
  ·intro h
   refine ⟨by simpa using h 0 x (by simp),fun j y hy => ?_⟩
   have:=h (j + 1) y (by simpa using hy)
   rwa [show i + (j + 1) = i + 1 + j by omega] at this
structure Sl (F:Frz) (sz:Nat) (l:List G) (a:Option Addr) (c:Nat):Prop where
 cap:l.length ≤ c
 max:c ≤ maxLen
 nil:a = none → l = [] ∧ c = 0
 elems:∀ j x,l[j]? = some x → ∃ es,es.length = sz ∧ FCells F a (j * sz) es ∧ Rd F x es
theorem Sl.mono {F F':Frz} {sz:Nat} {l:List G} {a:Option Addr} {c:Nat} (h:Sl F sz l a c) (hle:F.le F'):Sl F' sz l a c :=
 ⟨h.cap,h.max,h.nil,fun j x hx => let ⟨es,h1,h2,h3⟩:=h.elems j x hx; ⟨es,h1,h2.mono hle,h3.mono hle⟩⟩
theorem Rd_sl {F:Frz} {sz:Nat} {l:List G} {cs:List Value}:Rd F (.sl sz l) cs ↔ ∃ a c,cs = [.slice a l.length c] ∧ Sl F sz l a c:=by
 simp only [Rd]
 constructor
 ·rintro ⟨a,c,h1,h2,h3,h4,h5⟩
  exact ⟨a,c,h1,h2,h3,h4,fun j x hx => by have:=RdSl_iff.1 h5 j x hx; simpa using this⟩
 ·rintro ⟨a,c,h1,h2⟩
  exact ⟨a,c,h1,h2.cap,h2.max,h2.nil,RdSl_iff.2 fun j x hx => by have:=h2.elems j x hx; simpa using this⟩
theorem Sl.ne {F:Frz} {sz:Nat} {l:List G} {a:Option Addr} {c:Nat} (h:Sl F sz l a c) (hl:l ≠ []):a ≠ none:=fun e => hl (h.nil e).1
theorem Sl.load {F F':Frz} {L:Loc} {sz:Nat} {l:List G} {a:Option Addr} {c:Nat} {j:Nat} {x:G} {K:List Value → Prop} (h:Sl F sz l a c) (hle:F.le F') (hx:l[j]? = some x)
  (hK:∀ es,es.length = sz → Rd F' x es → K es):LoadPt F' L a (j * sz) sz K:=by
 obtain ⟨es,h1,h2,h3⟩:=h.elems j x hx
 exact ⟨es,h1,.inl (h2.mono hle),hK es h1 (h3.mono hle)⟩
theorem Sl.loadD {F F':Frz} {sz:Nat} {l:List G} {a:Option Addr} {c:Nat} {j:Nat} {x:G} {K:List Value → Prop} (h:Sl F sz l a c) (hle:F.le F') (hx:l[j]? = some x)
  (hK:∀ es,es.length = sz → Rd F' x es → K es):LoadDPt F' a (j * sz) sz K:=by
 obtain ⟨es,h1,h2,h3⟩:=h.elems j x hx
 exact ⟨es,h1,.inl (h2.mono hle),hK es h1 (h3.mono hle)⟩
theorem brn_split {b:Bool} {A B:Prop} (h:b = true → A) (k:b = false → B):brn b A B:=by cases b; exact k rfl; exact h rfl
theorem brn_p {p:Prop} [Decidable p] {A B:Prop} (h:p → A) (k:¬ p → B):brn (decide p) A B:=by
 by_cases hp:p
 ·simp only [hp,decide_true]; exact h hp
 ·simp only [hp,decide_false]; exact k hp
theorem Fit.in64 {n:Int} {K:Int → Prop} (h1:-9223372036854775808 ≤ n) (h2:n ≤ 9223372036854775807) (h:K n):Fit .i64 n K:=by
 refine ⟨?_⟩
 have:IntKind.wrap .i64 n = n:=by
  simp only [IntKind.wrap,IntKind.bits,IntKind.signed,Bool.true_and,decide_eq_true_eq,ge_iff_le,Nat.reduceSub,Int.reducePow]
  split <;> omega
 rw [this]; exact h
def Retv (x:Value):Frz → List Own → Value → Prop:=fun _ Lo v => Lo = [] ∧ v = x
theorem Retv.mono {x:Value}:∀ F G L v,Frz.le F G → Retv x F L v → Retv x G L v:=fun _ _ _ _ _ h => h
theorem wf_i64 {n:Int} (h:(Lit.int .i64 n).wf = true):-9223372036854775808 ≤ n ∧ n ≤ 9223372036854775807:=by
 simpa [Lit.wf,IntKind.min,IntKind.max,IntKind.bits,IntKind.signed] using h
end Go.Fr
namespace Go.Fr.T
open Go Go.RowKit Go.Fr
inductive C where
 | int (k:IntKind) (n:Int)
 | bool (b:Bool)
 | str (s:ByteArray)
 | sl (els:List (List C))
 | slx (els:List (List C))
 | nils
 | rw (k:Nat)
 | own (k off:Nat)
 | ownv (k off:Nat)
 | pt (es:List C) (off:Nat)
 | elr (k j off:Nat)
 | fn (f:Nat) (fi ca:List C)
 | agg (cs:List C)
 | tup (cs:List C)
 | nilp
 | nilf
 | ifc (t:TypeId) (c:C)
 | opq (k:Nat)
 | mval (nm:String) (c:C)
 | mof (t:TypeId) (nm:String)
 | mpr (k:Nat)
 | und
 | any
 deriving Inhabited
inductive TO where
 | box (t:TypeId) (cs:List C)
 | row (t:TypeId) (sz:Nat) (els:List (List C))
 | map (es:List (C × C))
abbrev TL:=List (Nat × TO)
def TL.get:TL → Nat → Option TO
 | [],_ => none
 | (j,o) :: l,k => match Nat.beq j k with | true => some o | false => TL.get l k
def TL.set:TL → Nat → TO → TL
 | [],k,o => [(k,o)]
 | (j,p) :: l,k,o => match Nat.beq j k with
  | true => (k,o) :: l
  | false => match Nat.ble j k with
   | true => (j,p) :: TL.set l k o
   | false => (k,o) :: (j,p) :: l
def TL.del:TL → Nat → TL
 | [],_ => []
 | (j,o) :: l,k => match Nat.beq j k with | true => TL.del l k | false => (j,o) :: TL.del l k
def TL.sub (L:TL):List Nat → Option (List TO)
 | [] => some []
 | k :: ks => match L.get k,TL.sub L ks with
  | some o,some l => some (o :: l)
  | _,_ => none
def TL.dels (L:TL):List Nat → TL
 | [] => L
 | k :: ks => TL.dels (L.del k) ks
def TL.puts (L:TL):List Nat → List TO → TL
 | k :: ks,o :: l => TL.puts (L.set k o) ks l
 | _,_ => L
def tinpFrom:Nat → List TO → TL
 | _,[] => []
 | k,o :: l => (k,o) :: tinpFrom (k + 1) l
def tinp (l:List TO):TL:=tinpFrom 1000 l
def C.one:C → Bool
 | .int _ _ => true
 | .bool _ => true
 | .str _ => true
 | .sl _ => true
 | .slx _ => true
 | .nils => true
 | .rw _ => true
 | .own _ _ => true
 | .pt _ _ => true
 | .fn _ _ _ => true
 | .nilp => true
 | .nilf => true
 | .ifc _ _ => true
 | .opq _ => true
 | .mval _ _ => true
 | .mof _ _ => true
 | .mpr _ => true
 | _ => false
def onesL:List C → Bool
 | [] => true
 | c :: l => match c.one with | true => onesL l | false => false
def C.leafPure:C → Bool
 | .int _ _ => true
 | .bool _ => true
 | .str _ => true
 | .sl _ => true
 | .slx _ => true
 | .nils => true
 | .pt _ _ => true
 | .nilp => true
 | .nilf => true
 | .ifc _ _ => true
 | .opq _ => true
 | .mval _ _ => true
 | .mof _ _ => true
 | _ => false
def leavesPure:List C → Bool
 | [] => true
 | c :: l => match c.leafPure with | true => leavesPure l | false => false
def C.pure:C → Bool
 | .fn _ fi ca => match leavesPure fi with | true => leavesPure ca | false => false
 | c => c.leafPure
def puresL:List C → Bool
 | [] => true
 | c :: l => match c.pure with | true => puresL l | false => false
def C.mp (g:C → C):Nat → C → C
 | _,.int k n => g (.int k n)
 | _,.bool b => g (.bool b)
 | _,.str s => g (.str s)
 | _,.sl els => g (.sl els)
 | _,.slx els => g (.slx els)
 | _,.nils => g .nils
 | _,.rw j => g (.rw j)
 | _,.own j o => g (.own j o)
 | _,.ownv j o => g (.ownv j o)
 | _,.pt es o => g (.pt es o)
 | _,.elr j a b => g (.elr j a b)
 | _,.nilp => g .nilp
 | _,.nilf => g .nilf
 | _,.ifc t c => g (.ifc t c)
 | _,.opq k => g (.opq k)
 | _,.mval nm c => g (.mval nm c)
 | _,.mof t nm => g (.mof t nm)
 | _,.mpr j => g (.mpr j)
 | _,.und => g .und
 | _,.any => g .any
 | 0,.fn _ _ _ => .any
 | 0,.agg _ => .any
 | 0,.tup _ => .any
 | n + 1,.fn f fi ca => .fn f (fi.map (C.mp g n)) (ca.map (C.mp g n))
 | n + 1,.agg cs => .agg (cs.map (C.mp g n))
 | n + 1,.tup cs => .tup (cs.map (C.mp g n))
def killLeaf (k:Nat):C → C
 | .int k n => .int k n
 | .bool b => .bool b
 | .str s => .str s
 | .sl els => .sl els
 | .slx els => .slx els
 | .nils => .nils
 | .rw j => match Nat.beq j k with | true => .any | false => .rw j
 | .own j o => .own j o
 | .ownv j o => .ownv j o
 | .pt es o => .pt es o
 | .elr j a b => match Nat.beq j k with | true => .any | false => .elr j a b
 | .fn f fi ca => .fn f fi ca
 | .agg cs => .agg cs
 | .tup cs => .tup cs
 | .nilp => .nilp
 | .nilf => .nilf
 | .ifc t c => .ifc t c
 | .opq k => .opq k
 | .mval nm c => .mval nm c
 | .mof t nm => .mof t nm
 | .mpr j => .mpr j
 | .und => .und
 | .any => .any
def C.kill (k:Nat) (c:C):C:=C.mp (killLeaf k) 3 c
def C.kills:List Nat → C → C
 | [],c => c
 | k :: ks,c => C.kills ks (c.kill k)
def unrwLeaf:C → C
 | .int k n => .int k n
 | .bool b => .bool b
 | .str s => .str s
 | .sl els => .sl els
 | .slx els => .slx els
 | .nils => .nils
 | .rw j => .any
 | .own j o => .own j o
 | .ownv j o => .ownv j o
 | .pt es o => .pt es o
 | .elr j a b => .any
 | .fn f fi ca => .fn f fi ca
 | .agg cs => .agg cs
 | .tup cs => .tup cs
 | .nilp => .nilp
 | .nilf => .nilf
 | .ifc t c => .ifc t c
 | .opq k => .opq k
 | .mval nm c => .mval nm c
 | .mof t nm => .mof t nm
 | .mpr j => .mpr j
 | .und => .und
 | .any => .any
def C.unrw (c:C):C:=C.mp unrwLeaf 3 c
def frzLeaf (k:Nat) (l:List (List C)):C → C
 | .int k n => .int k n
 | .bool b => .bool b
 | .str s => .str s
 | .sl els => .sl els
 | .slx els => .slx els
 | .nils => .nils
 | .rw j => match Nat.beq j k with | true => .sl l | false => .rw j
 | .own j o => .own j o
 | .ownv j o => .ownv j o
 | .pt es o => .pt es o
 | .elr j a b => match Nat.beq j k with | true => .any | false => .elr j a b
 | .fn f fi ca => .fn f fi ca
 | .agg cs => .agg cs
 | .tup cs => .tup cs
 | .nilp => .nilp
 | .nilf => .nilf
 | .ifc t c => .ifc t c
 | .opq k => .opq k
 | .mval nm c => .mval nm c
 | .mof t nm => .mof t nm
 | .mpr j => .mpr j
 | .und => .und
 | .any => .any
def C.frz (k:Nat) (els:List (List C)) (c:C):C:=C.mp (frzLeaf k els) 3 c
def frbLeaf (k:Nat) (es:List C):C → C
 | .int k n => .int k n
 | .bool b => .bool b
 | .str s => .str s
 | .sl els => .sl els
 | .slx els => .slx els
 | .nils => .nils
 | .rw j => .rw j
 | .own j o => match Nat.beq j k with | true => .pt es o | false => .own j o
 | .ownv j o => match Nat.beq j k with | true => .pt es o | false => .ownv j o
 | .pt es o => .pt es o
 | .elr j a b => .elr j a b
 | .fn f fi ca => .fn f fi ca
 | .agg cs => .agg cs
 | .tup cs => .tup cs
 | .nilp => .nilp
 | .nilf => .nilf
 | .ifc t c => .ifc t c
 | .opq k => .opq k
 | .mval nm c => .mval nm c
 | .mof t nm => .mof t nm
 | .mpr j => match Nat.beq j k with | true => .any | false => .mpr j
 | .und => .und
 | .any => .any
def C.frb (k:Nat) (es:List C) (c:C):C:=C.mp (frbLeaf k es) 3 c
def renLeaf (r:Nat → Option Nat):C → C
 | .int k n => .int k n
 | .bool b => .bool b
 | .str s => .str s
 | .sl els => .sl els
 | .slx els => .slx els
 | .nils => .nils
 | .rw j => match r j with | some i => .rw i | none => .any
 | .own j o => match r j with | some i => .own i o | none => .any
 | .ownv j o => match r j with | some i => .own i o | none => .any
 | .pt es o => .pt es o
 | .elr j a b => .any
 | .fn f fi ca => .fn f fi ca
 | .agg cs => .agg cs
 | .tup cs => .tup cs
 | .nilp => .nilp
 | .nilf => .nilf
 | .ifc t c => .ifc t c
 | .opq k => .opq k
 | .mval nm c => .mval nm c
 | .mof t nm => .mof t nm
 | .mpr j => match r j with | some i => .mpr i | none => .any
 | .und => .und
 | .any => .any
def C.ren (f:Nat → Option Nat) (c:C):C:=C.mp (renLeaf f) 3 c
def TO.mapC (g:C → C):TO → TO
 | .box t cs => .box t (cs.map g)
 | .row t sz els => .row t sz els
 | .map es => .map es
def TL.mapC (g:C → C):TL → TL
 | [] => []
 | (k,o) :: l => (k,o.mapC g) :: TL.mapC g l
def toIn:List Nat → Nat → Nat → Option Nat
 | [],_,_ => none
 | k :: ks,i,j => match Nat.beq j k with | true => some i | false => toIn ks (i + 1) j
def fromIn (ko:List Nat) (j:Nat):Option Nat:=match Nat.ble 1000 j with | true => ko[j - 1000]? | false => none
def C.can:C → C
 | .int k n => .int k n
 | .bool b => .bool b
 | .str s => .str s
 | .sl els => .sl els
 | .slx els => .sl els
 | .nils => .sl []
 | .rw j => .rw j
 | .own j o => .own j o
 | .ownv j o => .ownv j o
 | .pt es o => .pt es o
 | .elr j a b => .elr j a b
 | .fn f fi ca => .fn f fi ca
 | .agg cs => .agg cs
 | .tup cs => .tup cs
 | .nilp => .nilp
 | .nilf => .nilf
 | .ifc t c => .ifc t c
 | .opq k => .opq k
 | .mval nm c => .mval nm c
 | .mof t nm => .mof t nm
 | .mpr j => .mpr j
 | .und => .und
 | .any => .any
def C.canA:C → C
 | .int k n => .int k n
 | .bool b => .bool b
 | .str s => .str s
 | .sl els => .sl els
 | .slx els => .sl els
 | .nils => .sl []
 | .rw j => .rw j
 | .own j o => .own j o
 | .ownv j o => .ownv j o
 | .pt es o => .pt es o
 | .elr j a b => .elr j a b
 | .fn f fi ca => .fn f fi ca
 | .agg cs => .agg (cs.map C.can)
 | .tup cs => .tup cs
 | .nilp => .nilp
 | .nilf => .nilf
 | .ifc t c => .ifc t c
 | .opq k => .opq k
 | .mval nm c => .mval nm c
 | .mof t nm => .mof t nm
 | .mpr j => .mpr j
 | .und => .und
 | .any => .any
def C.canR:C → C
 | .int k n => .int k n
 | .bool b => .bool b
 | .str s => .str s
 | .sl els => .sl els
 | .slx els => .sl els
 | .nils => .sl []
 | .rw j => .rw j
 | .own j o => .own j o
 | .ownv j o => .ownv j o
 | .pt es o => .pt es o
 | .elr j a b => .elr j a b
 | .fn f fi ca => .fn f fi ca
 | .agg cs => .agg (cs.map C.can)
 | .tup cs => .tup (cs.map C.canA)
 | .nilp => .nilp
 | .nilf => .nilf
 | .ifc t c => .ifc t c
 | .opq k => .opq k
 | .mval nm c => .mval nm c
 | .mof t nm => .mof t nm
 | .mpr j => .mpr j
 | .und => .und
 | .any => .any
abbrev TEnv:=Nat → C
def tput (d:Option Nat) (c:C) (ρ:TEnv):TEnv :=
 match d with
 | some d => fun j => match Nat.beq j d with | true => c | false => ρ j
 | none => ρ
def cv0:Value → C
 | .int k n => match (Lit.int k n).wf with | true => .int k n | false => .any
 | .bool b => .bool b
 | .string s => match Nat.ble s.size maxLen with | true => .str s | false => .any
 | .slice none 0 0 => .nils
 | .pointer none => .nilp
 | .nilFunc => .nilf
 | .nilIface => .opq 0
 | .func (.methodOf t nm) ⟨[]⟩ ⟨[]⟩ => .mof t nm
 | _ => .any
def mtC (nm:String) (c:C):C :=
 match c with
 | .ifc t c => .mval nm (.ifc t c)
 | _ => .any
def cv:Value → C
 | .agg cs => .agg (cs.toList.map cv0)
 | v => cv0 v
def evT (ρ:TEnv):X → C
 | .t n => ρ n
 | .c v => cv v
 | .fn f => .fn f [] []
 | .mt nm n => mtC nm (ρ n)
def C.cel:C → C
 | .int k n => .int k n
 | .bool b => .bool b
 | .str s => .str s
 | .sl els => .sl els
 | .slx els => .slx els
 | .nils => .nils
 | .rw j => .rw j
 | .own j o => .own j o
 | .ownv j o => .own j o
 | .pt es o => .pt es o
 | .elr j a b => .any
 | .fn f fi ca => .fn f fi ca
 | .agg cs => .agg cs
 | .tup cs => .tup cs
 | .nilp => .nilp
 | .nilf => .nilf
 | .ifc t c => .ifc t c
 | .opq k => .opq k
 | .mval nm c => .mval nm c
 | .mof t nm => .mof t nm
 | .mpr j => .mpr j
 | .und => .und
 | .any => .any
def C.slt:C → C
 | .int k n => .int k n
 | .bool b => .bool b
 | .str s => .str s
 | .sl els => .sl els
 | .slx els => .slx els
 | .nils => .nils
 | .rw j => .rw j
 | .own j o => .ownv j o
 | .ownv j o => .ownv j o
 | .pt es o => .pt es o
 | .elr j a b => .elr j a b
 | .fn f fi ca => .fn f fi ca
 | .agg cs => .agg cs
 | .tup cs => .tup cs
 | .nilp => .nilp
 | .nilf => .nilf
 | .ifc t c => .ifc t c
 | .opq k => .opq k
 | .mval nm c => .mval nm c
 | .mof t nm => .mof t nm
 | .mpr j => .mpr j
 | .und => .und
 | .any => .any
def C.toOwn:C → C
 | .int k n => .int k n
 | .bool b => .bool b
 | .str s => .str s
 | .sl els => .sl els
 | .slx els => .slx els
 | .nils => .nils
 | .rw j => .rw j
 | .own j o => .own j o
 | .ownv j o => .own j o
 | .pt es o => .pt es o
 | .elr j a b => .elr j a b
 | .fn f fi ca => .fn f fi ca
 | .agg cs => .agg cs
 | .tup cs => .tup cs
 | .nilp => .nilp
 | .nilf => .nilf
 | .ifc t c => .ifc t c
 | .opq k => .opq k
 | .mval nm c => .mval nm c
 | .mof t nm => .mof t nm
 | .mpr j => .mpr j
 | .und => .und
 | .any => .any
def C.okc:C → Bool
 | .any => false
 | .und => false
 | .elr _ _ _ => false
 | .tup _ => false
 | _ => true
def tcells:C → List C
 | .int k n => [.int k n]
 | .bool b => [.bool b]
 | .str s => [.str s]
 | .sl els => [.sl els]
 | .slx els => [.slx els]
 | .nils => [.nils]
 | .rw j => [.rw j]
 | .own j o => [.own j o]
 | .ownv j o => [.own j o]
 | .pt es o => [.pt es o]
 | .elr j a b => [.any]
 | .fn f fi ca => [.fn f fi ca]
 | .agg cs => cs
 | .tup cs => [.tup cs]
 | .nilp => [.nilp]
 | .nilf => [.nilf]
 | .ifc t c => [.ifc t c]
 | .opq k => [.opq k]
 | .mval nm c => [.mval nm c]
 | .mof t nm => [.mof t nm]
 | .mpr j => [.mpr j]
 | .und => [.und]
 | .any => [.any]
def lenC?:List C → Nat → Bool
 | [],0 => true
 | _ :: l,n + 1 => lenC? l n
 | _,_ => false
def asC (agg:Bool) (cs:List C):C :=
 match agg,cs with
 | true,cs => .agg cs
 | false,[c] => c.slt
 | false,_ => .any
def evalsT (ρ:TEnv):List X → List C
 | [] => []
 | x :: xs => (evT ρ x).cel :: evalsT ρ xs
def elsT (ρ:TEnv):List X → List (List C)
 | [] => []
 | x :: xs => (tcells (evT ρ x)).map C.can :: elsT ρ xs
def partsT (ρ:TEnv) (sz:Nat):List X → Bool
 | [] => true
 | x :: xs => match (evT ρ x).okc,lenC? (tcells (evT ρ x)) sz,onesL (tcells (evT ρ x)),puresL (tcells (evT ρ x)) with
  | true,true,true,true => partsT ρ sz xs
  | _,_,_,_ => false
def spliceC (cs:List C) (off:Nat) (vs:List C):List C:=cs.take off ++ vs ++ cs.drop (off + vs.length)
def builtT (ρ:TEnv):List C → List (Nat × Nat × X) → Option (List C)
 | zs,[] => some zs
 | zs,(off,n,x) :: ps => match (evT ρ x).okc,lenC? (tcells (evT ρ x)) n with
  | true,true => builtT ρ (spliceC zs off (tcells (evT ρ x))) ps
  | _,_ => none
def optT (ρ:TEnv) (d:Int):Option X → Option Int
 | none => some d
 | some x => match evT ρ x with | .int _ i => some i | _ => none
def mmT (mx:Bool):Int → List C → Option Int
 | a,[] => some a
 | a,.int _ b :: l => mmT mx (match mx with | true => if b > a then b else a | false => if b < a then b else a) l
 | _,_ => none
abbrev bcell (b:UInt8):C:=.int .u8 b.toNat
def bcells (bs:List UInt8):List (List C):=bs.map fun b => [bcell b]
def fc (c:C) (K:C → Prop):Prop :=
 match c with
 | .int k n => K (.int k n)
 | .bool b => K (.bool b)
 | .str s => K (.str s)
 | .sl els => K (.sl els)
 | .slx els => K (.slx els)
 | .nils => K .nils
 | .rw k => K (.rw k)
 | .own k off => K (.own k off)
 | .ownv k off => K (.ownv k off)
 | .pt es off => K (.pt es off)
 | .elr k j off => K (.elr k j off)
 | .fn f fi ca => K (.fn f fi ca)
 | .agg cs => K (.agg cs)
 | .tup cs => K (.tup cs)
 | .nilp => K .nilp
 | .nilf => K .nilf
 | .ifc t c => K (.ifc t c)
 | .opq k => K (.opq k)
 | .mval nm c => K (.mval nm c)
 | .mof t nm => K (.mof t nm)
 | .mpr j => K (.mpr j)
 | .und => K .und
 | .any => K .any
def fl:List C → (List C → Prop) → Prop
 | [],K => K []
 | c :: cs,K => fc c fun c => fl cs fun cs => K (c :: cs)
def fO:TO → (TO → Prop) → Prop
 | .box t cs,K => fl cs fun cs => K (.box t cs)
 | .row t sz els,K => K (.row t sz els)
 | .map es,K => K (.map es)
def fT:TL → (TL → Prop) → Prop
 | [],K => K []
 | (k,o) :: l,K => fO o fun o => fT l fun l => K ((k,o) :: l)
def fca (c:C) (K:C → Prop):Prop :=
 match c with
 | .agg cs => fl cs fun cs => K (.agg cs)
 | c => fc c K
theorem fc_eq {c:C} {K:C → Prop}:fc c K = K c:=by cases c <;> rfl
theorem fl_eq:∀ {cs:List C} {K:List C → Prop},fl cs K = K cs
 | [],K => rfl
 | c :: cs,K => by simp only [fl,fc_eq,fl_eq]
theorem fO_eq {o:TO} {K:TO → Prop}:fO o K = K o:=by cases o <;> simp only [fO,fl_eq]
theorem fT_eq:∀ {L:TL} {K:TL → Prop},fT L K = K L
 | [],K => rfl
 | (k,o) :: l,K => by simp only [fT,fO_eq,fT_eq]
theorem fca_eq {c:C} {K:C → Prop}:fca c K = K c:=by cases c <;> simp only [fca,fl_eq,fc_eq]
mutual
/-- the bounds that all data of the machine keeps -/
def Wf:C → Prop
 | .int k n => (Lit.int k n).wf = true
 | .str s => s.size ≤ maxLen
 | .sl els => els.length ≤ maxLen ∧ WfSS els
 | .slx els => els.length ≤ maxLen ∧ WfSS els
 | .pt es _ => WfS es
 | .fn _ fi ca => WfS fi ∧ WfS ca
 | .agg cs => WfS cs
 | .tup cs => WfS cs
 | _ => True
def WfS:List C → Prop
 | [] => True
 | c :: l => Wf c ∧ WfS l
def WfSS:List (List C) → Prop
 | [] => True
 | es :: l => WfS es ∧ WfSS l
end
def WfM:List (C × C) → Prop
 | [] => True
 | (k,v) :: l => Wf k ∧ Wf v ∧ WfM l
def TO.Wf:TO → Prop
 | .box _ cs => WfS cs
 | .row _ _ els => WfSS els
 | .map es => WfM es
structure IdxT (els:List (List C)) (i:Int) (sz:Nat) (K:List C → Prop):Prop where
 out:∃ es,0 ≤ i ∧ els[i.toNat]? = some es ∧ lenC? es sz = true ∧ K es
structure RowT (els:List (List C)) (j off n:Nat) (K:List C → Prop):Prop where
 out:∃ es,els[j]? = some es ∧ lenC? ((es.drop off).take n) n = true ∧ K ((es.drop off).take n)
structure BytesT (els:List (List C)) (K:List UInt8 → Prop):Prop where
 out:∃ bs,els = bcells bs ∧ K bs
structure SlcT (l h:Int) (els:List (List C)) (sz:Nat) (K:Nat → Nat → Prop):Prop where
 lo:0 ≤ l
 le:l ≤ h
 hi:h ≤ els.length
 sizes:∀ es ∈ els,es.length = sz
 out:K l.toNat h.toNat
structure AppT (els news:List (List C)) (sz bytes:Nat) (K:Prop):Prop where
 sizes:∀ es ∈ news,es.length = sz
 max:els.length + news.length ≤ maxLen
 room:(els.length + news.length) * bytes ≤ 140737488355328
 out:K
def keySameC:Bool → C → C → Option Bool
 | false,.int .i64 a,.int .i64 b => some (decide (a = b))
 | true,.str a,.str b => some (decide (a.data.toList = b.data.toList))
 | _,_,_ => none
def keyC?:Bool → C → Bool
 | false,.int .i64 _ => true
 | true,.str _ => true
 | _,_ => false
def findC (str:Bool) (key:C):List (C × C) → Option (Option C)
 | [] => some none
 | (k,v) :: l => match keySameC str key k with
  | some true => some (some v)
  | some false => findC str key l
  | none => none
def setC (str:Bool) (key val:C):List (C × C) → Option (List (C × C))
 | [] => some [(key,val)]
 | (k,v) :: l => match keySameC str key k with
  | some true => some ((key,val) :: l)
  | some false => match setC str key val l with | some l' => some ((k,v) :: l') | none => none
  | none => none
structure MLookT (str:Bool) (es:List (C × C)) (key:C) (Y:C → Prop) (N:Prop):Prop where
 out:(∃ v,findC str key es = some (some v) ∧ Y v) ∨ (findC str key es = some none ∧ N)
structure MUpdT (str:Bool) (es:List (C × C)) (key val:C) (K:List (C × C) → Prop):Prop where
 out:∃ es',setC str key val es = some es' ∧ K es'
structure ZerosT (i:Int) (K:Nat → Prop):Prop where
 out:∃ m:Nat,i = m ∧ K m
def frzK:List Nat → TL → TEnv → List C → (TL → TEnv → List C → Prop) → Prop
 | [],L,ρ,a,K => K L ρ a
 | k :: ks,L,ρ,a,K => match L.get k with
  | some (.row _ _ els) => frzK ks ((L.del k).mapC (C.frz k els)) (fun j => (ρ j).frz k els) (a.map (C.frz k els)) K
  | _ => False
def hasKeys (L:TL):C → Bool
 | .rw k => match L.get k with | some (.row _ _ _) => true | _ => false
 | .own k _ => match L.get k with | some (.box _ _) => true | _ => false
 | .mpr k => match L.get k with | some (.map _) => true | _ => false
 | .ownv _ _ => false
 | .elr _ _ _ => false
 | _ => true
def hasKeysA (L:TL):Nat → C → Bool
 | n + 1,.agg cs => cs.all (hasKeysA L n)
 | n + 1,.tup cs => cs.all (hasKeysA L n)
 | n + 1,.fn _ fi ca => fi.all (hasKeysA L n) && ca.all (hasKeysA L n)
 | 0,.agg _ => false
 | 0,.tup _ => false
 | 0,.fn _ _ _ => false
 | _,c => hasKeys L c
def leC (L L1:TL) (c c':C):Prop :=
 c' = .any ∨ (c = c' ∧ hasKeysA L1 3 c' = true) ∨ (c = .nils ∧ c' = .sl []) ∨ (c = .nils ∧ ∃ k t sz,c' = .rw k ∧ L.get k = none ∧ L1.get k = some (.row t sz [])) ∨ ∃ els,c = .slx els ∧ c' = .sl els
def leCs (L L1:TL):List C → List C → Prop
 | [],l => l = []
 | c :: cs,l => ∃ c' cs',l = c' :: cs' ∧ leC L L1 c c' ∧ leCs L L1 cs cs'
def keysO (L1:TL):TO → Bool
 | .box _ cs => cs.all (hasKeysA L1 3)
 | .row _ _ _ => true
 | .map _ => true
def leO (L L1:TL) (o o':TO):Prop:=(o = o' ∧ keysO L1 o' = true) ∨ ∃ t cs cs',o = .box t cs ∧ o' = .box t cs' ∧ leCs L L1 cs cs'
def gives (L L1:TL):TL → Prop
 | [] => True
 | (k,o) :: l => ((∃ p,L.get k = some p ∧ leO L L1 p o) ∨ (L.get k = none ∧ ∃ t sz,o = .row t sz [])) ∧ gives L L1 l
def holdsT (L L1:TL):List Nat → List C → TEnv → Prop
 | k :: ks,v :: vs,ρ => leC L L1 (ρ k) v ∧ holdsT L L1 ks vs ρ
 | _,_,_ => True
def putsT:List Nat → List C → TEnv → TEnv
 | k :: ks,v :: vs,ρ => tput (some k) v (putsT ks vs ρ)
 | _,_,ρ => ρ
def nodup?:List Nat → Bool
 | [] => true
 | k :: ks => match mem? ks k with | true => false | false => nodup? ks
end Go.Fr.T
