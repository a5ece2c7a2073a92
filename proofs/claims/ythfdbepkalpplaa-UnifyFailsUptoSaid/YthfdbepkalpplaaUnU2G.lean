/- Part of the proofs of the statements of this seat. -/
import Derived.Test.YthfdbepkalpplaaUnU1G
set_option maxRecDepth 10000
set_option linter.unusedVariables false
set_option linter.unusedSimpArgs false
namespace Go.Fr.Try
open Go Go.RowKit Go.Proofs Go.Fr Go.Fr.T Go.Fr.Api
theorem anyO_mono {f g:Ty → Option Bool}:∀ {l:List Ty} {b:Bool},(∀ x ∈ l,∀ b,f x = some b → g x = some b) → anyO f l = some b → anyO g l = some b
 | [],b,_,h => h
 | x :: l,b,hf,h => by
  rw [anyO] at h ⊢
  cases hx:f x with
  | none => simp only [hx] at h; cases h
  | some a =>
   cases hl:anyO f l with
   | none => simp only [hx,hl] at h; cases h
   | some c =>
    simp only [hx,hl] at h
    simp only [hf x (by simp) a hx,anyO_mono (fun y hy => hf y (by simp [hy])) hl]
    exact h
theorem mapO_mono {f g:Ty → Option Ty}:∀ {l r:List Ty},(∀ x ∈ l,∀ b,f x = some b → g x = some b) → mapO f l = some r → mapO g l = some r
 | [],b,_,h => h
 | x :: l,b,hf,h => by
  rw [mapO] at h ⊢
  cases hx:f x with
  | none => simp only [hx] at h; cases h
  | some a =>
   cases hl:mapO f l with
   | none => simp only [hx,hl] at h; cases h
   | some c =>
    simp only [hx,hl] at h
    simp only [hf x (by simp) a hx,mapO_mono (fun y hy => hf y (by simp [hy])) hl]
    exact h
theorem eqLF_mono {f g:List Ty → Ty → Ty → Option (Option (List Ty))}:∀ {l l':List Ty} {s:List Ty} {r:Option (List Ty)},(∀ s x y b,f s x y = some b → g s x y = some b) → eqLF f s l l' = some r → eqLF g s l l' = some r
 | [],l',s,r,_,h => h
 | x :: l,[],s,r,_,h => h
 | x :: l,y :: l',s,r,hf,h => by
  rw [eqLF] at h ⊢
  cases hx:f s x y with
  | none => simp only [hx] at h; cases h
  | some a =>
   simp only [hx] at h
   simp only [hf s x y a hx]
   cases a with
   | none => exact h
   | some s' => exact eqLF_mono hf h
theorem deepL_mono {f g:Ty → DM → OM → Option (Option (Int × DM × OM))}:∀ {l:List Ty} {k:Int} {d:DM} {o:OM} {r:Option (Int × DM × OM)},(∀ x d o b,f x d o = some b → g x d o = some b) → deepL f l k d o = some r → deepL g l k d o = some r
 | [],k,d,o,r,_,h => h
 | x :: l,k,d,o,r,hf,h => by
  rw [deepL] at h ⊢
  cases hx:f x d o with
  | none => simp only [hx] at h; cases h
  | some a =>
   simp only [hx] at h
   simp only [hf x d o a hx]
   cases a with
   | none => exact h
   | some p => exact deepL_mono hf h
theorem front_mono {s:List Ty}:∀ {n m:Nat} {t r:Ty},n ≤ m → frontF s n t = some r → frontF s m t = some r
 | 0,m,t,r,_,h => by cases h
 | n + 1,0,t,r,hm,h => absurd hm (by omega)
 | n + 1,m + 1,t,r,hm,h => by
  rw [frontF] at h ⊢
  by_cases h9:t.kind = 9
  ·rw [if_pos h9] at h ⊢
   cases he:elemT s t with
   | none => rw [he] at h; cases h
   | some x =>
    rw [he] at h
    simp only at h ⊢
    by_cases hk:x.kind = 0
    ·rw [if_pos hk] at h ⊢; exact h
    ·rw [if_neg hk] at h ⊢; exact front_mono (by omega) h
  ·rw [if_neg h9] at h ⊢; exact h
theorem occ_mono {s:List Ty} {v:Int}:∀ {n m:Nat} {t:Ty} {r:Bool},n ≤ m → occF s v n t = some r → occF s v m t = some r
 | 0,m,t,r,_,h => by cases h
 | n + 1,0,t,r,hm,h => absurd hm (by omega)
 | n + 1,m + 1,t,r,hm,h => by
  rw [occF] at h ⊢
  cases hf:frontF s n t with
  | none => rw [hf] at h; cases h
  | some t' =>
   rw [hf] at h
   rw [front_mono (by omega) hf]
   simp only at h ⊢
   by_cases h9:t'.kind = 9
   ·rw [if_pos h9] at h ⊢; exact h
   ·rw [if_neg h9] at h ⊢
    exact anyO_mono (fun x _ b hb => occ_mono (by omega) hb) h
theorem ap_mono {s:List Ty}:∀ {n m:Nat} {t r:Ty},n ≤ m → apF s n t = some r → apF s m t = some r
 | 0,m,t,r,_,h => by cases h
 | n + 1,0,t,r,hm,h => absurd hm (by omega)
 | n + 1,m + 1,t,r,hm,h => by
  rw [apF] at h ⊢
  cases he:(if t.kind = 9 then elemT s t else some (.mk 0 0 [])) with
  | none => simp only [he] at h; cases h
  | some x =>
   simp only [he] at h ⊢
   by_cases hk:x.kind = 0
   ·rw [if_neg (fun q => q hk)] at h ⊢
    cases hl:mapO (apF s n) t.args with
    | none => simp only [hl] at h; cases h
    | some l =>
     simp only [hl] at h
     simp only [mapO_mono (g:=apF s m) (fun x _ b hb => ap_mono (by omega) hb) hl]
     exact h
   ·rw [if_pos hk] at h ⊢
    exact ap_mono (by omega) h
theorem eq_mono:∀ {n m:Nat} {s:List Ty} {a b:Ty} {r:Option (List Ty)},n ≤ m → eqF n s a b = some r → eqF m s a b = some r
 | 0,m,s,a,b,r,_,h => by cases h
 | n + 1,0,s,a,b,r,hm,h => absurd hm (by omega)
 | n + 1,m + 1,s,a,b,r,hm,h => by
  rw [eqF] at h ⊢
  cases ha:frontF s n a with
  | none => simp only [ha] at h; cases h
  | some a' =>
   cases hb:frontF s n b with
   | none => simp only [ha,hb] at h; cases h
   | some b' =>
    simp only [ha,hb] at h
    simp only [front_mono (show n ≤ m by omega) ha,front_mono (show n ≤ m by omega) hb]
    by_cases h1:a'.kind = 9 ∧ b'.kind = 9
    ·rw [if_pos h1] at h ⊢; exact h
    rw [if_neg h1] at h ⊢
    by_cases h2:a'.kind = 9
    ·rw [if_pos h2] at h ⊢
     cases ho:occF s a'.id n b' with
     | none => rw [ho] at h; cases h
     | some q => rw [ho] at h; rw [occ_mono (show n ≤ m by omega) ho]; exact h
    rw [if_neg h2] at h ⊢
    by_cases h3:b'.kind = 9
    ·rw [if_pos h3] at h ⊢; exact eq_mono (by omega) h
    rw [if_neg h3] at h ⊢
    split at h
    ·rename_i hc; rw [if_pos hc]; exact h
    ·rename_i hc; rw [if_neg hc]
     exact eqLF_mono (fun s x y b hq => eq_mono (by omega) hq) h
theorem deep_mono {s:List Ty}:∀ {n m:Nat} {t:Ty} {d:DM} {o:OM} {r:Option (Int × DM × OM)},n ≤ m → deepF s n t d o = some r → deepF s m t d o = some r
 | 0,m,t,d,o,r,_,h => by cases h
 | n + 1,0,t,d,o,r,hm,h => absurd hm (by omega)
 | n + 1,m + 1,t,d,o,r,hm,h => by
  rw [deepF] at h ⊢
  cases he:(if t.kind = 9 then elemT s t else some (.mk 0 0 [])) with
  | none => simp only [he] at h; cases h
  | some x =>
   simp only [he] at h ⊢
   by_cases hk:x.kind = 0
   ·rw [if_neg (fun q => q hk)] at h ⊢
    cases hl:deepL (deepF s n) t.args 0 d o with
    | none => simp only [hl] at h; cases h
    | some q =>
     simp only [hl] at h
     simp only [deepL_mono (g:=deepF s m) (fun x d o b hb => deep_mono (by omega) hb) hl]
     exact h
   ·rw [if_pos hk] at h ⊢
    cases hd:mget d t.id with
    | some k => simp only [hd] at h ⊢; exact h
    | none =>
     simp only [hd] at h ⊢
     have key:∀ {X:Option (Option (Int × DM × OM))},deepF s n x d (mset o t.id true) = X → X ≠ none → deepF s m x d (mset o t.id true) = X:=by
      intro X e hX
      cases X with
      | none => exact absurd rfl hX
      | some q => exact deep_mono (by omega) e
     cases ho:mget o t.id with
     | none =>
      simp only [ho] at h ⊢
      cases hx:deepF s n x d (mset o t.id true) with
      | none => simp only [hx] at h; cases h
      | some q => simp only [hx] at h; simp only [key hx (by simp)]; exact h
     | some u =>
      cases u with
      | true => simp only [ho] at h ⊢; exact h
      | false =>
       simp only [ho] at h ⊢
       cases hx:deepF s n x d (mset o t.id true) with
       | none => simp only [hx] at h; cases h
       | some q => simp only [hx] at h; simp only [key hx (by simp)]; exact h
theorem formL_mono {s:List Ty} {n m:Nat} (hm:n ≤ m):∀ {i:Nat} {r:Option (Bool × DM × OM)},formL s n i = some r → formL s m i = some r
 | 0,r,h => h
 | i + 1,r,h => by
  rw [formL] at h ⊢
  cases hf:formL s n i with
  | none => simp only [hf] at h; cases h
  | some q =>
   simp only [hf] at h
   simp only [formL_mono hm hf]
   cases q with
   | none => exact h
   | some p =>
    obtain ⟨b,d,o⟩:=p
    simp only at h ⊢
    cases hd:deepF s n (vr i) d o with
    | none => simp only [hd] at h; cases h
    | some q => simp only [hd] at h; simp only [deep_mono hm hd]; exact h
theorem formR_mono {s:List Ty} {n m:Nat} (hm:n ≤ m) {r:Option (DM × OM)} (h:formR s n = some r):formR s m = some r:=by
 unfold formR at h ⊢
 split
 ·rename_i ha
  rw [if_pos ha] at h
  cases hf:formL s n s.length with
  | none => simp only [hf] at h; cases h
  | some q => simp only [hf] at h; simp only [formL_mono hm hf]; exact h
 ·rename_i ha
  rw [if_neg ha] at h; exact h
theorem least_mono {s:List Ty} {n m:Nat} (hm:n ≤ m):∀ {i:Nat} {d r:DM},leastF s n i d = some r → leastF s m i d = some r
 | 0,d,r,h => h
 | i + 1,d,r,h => by
  rw [leastF] at h ⊢
  cases hf:frontF s n (vr i) with
  | none => simp only [hf] at h; cases h
  | some t => simp only [hf] at h; simp only [front_mono hm hf]; exact least_mono hm h
theorem canL_mono {s:List Ty} {n m:Nat} (hm:n ≤ m) {d:DM}:∀ {i:Nat} {r:List Ty},canL s n d i = some r → canL s m d i = some r
 | 0,r,h => h
 | i + 1,r,h => by
  rw [canL] at h ⊢
  cases hl:canL s n d i with
  | none => simp only [hl] at h; cases h
  | some l =>
   cases hf:apF s n (vr i) with
   | none => simp only [hl,hf] at h; cases h
   | some t => simp only [hl,hf] at h; simp only [canL_mono hm hl,ap_mono hm hf]; exact h
theorem canon_mono {s:List Ty} {n m:Nat} (hm:n ≤ m) {r:List Ty} (h:canonF s n = some r):canonF s m = some r:=by
 unfold canonF at h ⊢
 cases hl:leastF s n s.length [] with
 | none => simp only [hl] at h; cases h
 | some d => simp only [hl] at h; simp only [least_mono hm hl]; exact canL_mono hm h
theorem fuel_all {α β:Type} {f:Nat → α → Option β} (hm:∀ {n m:Nat} {x:α} {r:β},n ≤ m → f n x = some r → f m x = some r):∀ {l:List α},(∀ x ∈ l,∃ n r,f n x = some r) → ∃ n,∀ x ∈ l,∃ r,f n x = some r
 | [],_ => ⟨0,fun x h => by cases h⟩
 | x :: l,h => by
  obtain ⟨n,h1⟩:=fuel_all (f:=f) hm (l:=l) fun y hy => h y (by simp [hy])
  obtain ⟨k,r,h2⟩:=h x (by simp)
  refine ⟨max n k,fun y hy => ?_⟩
  rcases List.mem_cons.1 hy with rfl | hy
  ·exact ⟨r,hm (Nat.le_max_right _ _) h2⟩
  ·obtain ⟨r,h3⟩:=h1 y hy; exact ⟨r,hm (Nat.le_max_left _ _) h3⟩
theorem anyO_of {f:Ty → Option Bool}:∀ {l:List Ty},(∀ x ∈ l,∃ b,f x = some b) → ∃ b,anyO f l = some b
 | [],_ => ⟨false,rfl⟩
 | x :: l,h => by
  obtain ⟨a,h1⟩:=h x (by simp)
  obtain ⟨b,h2⟩:=anyO_of (l:=l) fun y hy => h y (by simp [hy])
  exact ⟨a || b,by rw [anyO,h1,h2]⟩
theorem mapO_of {f:Ty → Option Ty}:∀ {l:List Ty},(∀ x ∈ l,∃ b,f x = some b) → ∃ b,mapO f l = some b
 | [],_ => ⟨[],rfl⟩
 | x :: l,h => by
  obtain ⟨a,h1⟩:=h x (by simp)
  obtain ⟨b,h2⟩:=mapO_of (l:=l) fun y hy => h y (by simp [hy])
  exact ⟨a :: b,by rw [mapO,h1,h2]⟩
inductive FinT (s:List Ty):Ty → Prop
 | step {t x:Ty} (h9:t.kind = 9) (he:elemT s t = some x) (hk:¬ x.kind = 0) (h:FinT s x):FinT s t
 | stop {t x:Ty} (h9:t.kind = 9) (he:elemT s t = some x) (hk:x.kind = 0) (h:∀ y ∈ t.args,FinT s y):FinT s t
 | arg {t:Ty} (h9:¬ t.kind = 9) (h:∀ y ∈ t.args,FinT s y):FinT s t
theorem FinT.front {s:List Ty} {t:Ty} (h:FinT s t):∃ n r,frontF s n t = some r:=by
 induction h with
 | step h9 he hk _ ih =>
  obtain ⟨n,r,h⟩:=ih
  exact ⟨n + 1,r,by rw [frontF,if_pos h9,he]; simp only; rw [if_neg hk]; exact h⟩
 | stop h9 he hk _ _ => exact ⟨1,_,by rw [frontF,if_pos h9,he]; simp only; rw [if_pos hk]⟩
 | arg h9 _ _ => exact ⟨1,_,by rw [frontF,if_neg h9]⟩
theorem FinT.ap {s:List Ty} {t:Ty} (h:FinT s t):∃ n r,apF s n t = some r:=by
 induction h with
 | step h9 he hk _ ih =>
  obtain ⟨n,r,h⟩:=ih
  exact ⟨n + 1,r,by rw [apF,if_pos h9,he]; simp only; rw [if_pos hk]; exact h⟩
 | stop h9 he hk _ ih =>
  obtain ⟨n,h⟩:=fuel_all (f:=apF s) ap_mono ih
  obtain ⟨l,hl⟩:=mapO_of h
  exact ⟨n + 1,_,by rw [apF,if_pos h9,he]; simp only; rw [if_neg (fun q => q hk),hl]⟩
 | arg h9 _ ih =>
  obtain ⟨n,h⟩:=fuel_all (f:=apF s) ap_mono ih
  obtain ⟨l,hl⟩:=mapO_of h
  exact ⟨n + 1,_,by rw [apF,if_neg h9]; simp only; rw [if_neg (fun q => q rfl),hl]⟩
theorem FinT.occ {s:List Ty} (v:Int) {t:Ty} (h:FinT s t):∃ n r,occF s v n t = some r:=by
 induction h with
 | @step t x h9 he hk _ ih =>
  obtain ⟨n,r,h⟩:=ih
  cases n with
  | zero => cases h
  | succ n =>
   refine ⟨n + 2,r,?_⟩
   rw [occF] at h ⊢
   have e:frontF s (n + 1) t = frontF s n x:=by rw [frontF,if_pos h9,he]; simp only; rw [if_neg hk]
   rw [e]
   cases hf:frontF s n x with
   | none => rw [hf] at h; cases h
   | some t' =>
    rw [hf] at h
    simp only at h ⊢
    by_cases h9:t'.kind = 9
    ·rw [if_pos h9] at h ⊢; exact h
    ·rw [if_neg h9] at h ⊢
     exact anyO_mono (fun x _ b hb => occ_mono (Nat.le_succ _) hb) h
 | @stop t x h9 he hk _ _ =>
  exact ⟨2,_,by rw [occF,frontF,if_pos h9,he]; simp only; rw [if_pos hk]; simp only; rw [if_pos h9]⟩
 | @arg t h9 _ ih =>
  obtain ⟨n,h⟩:=fuel_all (f:=occF s v) occ_mono ih
  have h:∀ x ∈ t.args,∃ b,occF s v (n + 1) x = some b:=fun x hx => by
   obtain ⟨b,hb⟩:=h x hx
   exact ⟨b,occ_mono (Nat.le_succ _) hb⟩
  obtain ⟨b,hb⟩:=anyO_of h
  exact ⟨n + 2,b,by rw [occF,frontF,if_neg h9]; simp only; rw [if_neg h9]; exact hb⟩
theorem front_stop {s:List Ty}:∀ {n:Nat} {t r:Ty},frontF s n t = some r → r.kind = 9 → ∃ x,elemT s r = some x ∧ x.kind = 0
 | 0,t,r,h,_ => by cases h
 | n + 1,t,r,h,h9 => by
  rw [frontF] at h
  by_cases ht:t.kind = 9
  ·rw [if_pos ht] at h
   cases he:elemT s t with
   | none => rw [he] at h; cases h
   | some x =>
    rw [he] at h
    simp only at h
    by_cases hk:x.kind = 0
    ·rw [if_pos hk] at h; injection h with h; rw [← h]; exact ⟨x,he,hk⟩
    ·rw [if_neg hk] at h; exact front_stop h h9
  ·rw [if_neg ht] at h; injection h with h; exact absurd h9 (h ▸ ht)
theorem front_self {s:List Ty} {t x:Ty} (h9:t.kind = 9) (he:elemT s t = some x) (hk:x.kind = 0) (n:Nat):frontF s (n + 1) t = some t:=by
 rw [frontF,if_pos h9,he]; simp only; rw [if_pos hk]
theorem front_arg {s:List Ty} {t:Ty} (h9:¬ t.kind = 9) (n:Nat):frontF s (n + 1) t = some t:=by
 rw [frontF,if_neg h9]
theorem front_front {s:List Ty} {n m:Nat} {t r:Ty} (h:frontF s n t = some r):frontF s (m + 1) r = some r:=by
 by_cases h9:r.kind = 9
 ·obtain ⟨x,he,hk⟩:=front_stop h h9
  exact front_self h9 he hk m
 ·exact front_arg h9 m
theorem front_inv {s:List Ty} {p:Ty → Prop} (hs:∀ t x,p t → t.kind = 9 → elemT s t = some x → ¬ x.kind = 0 → p x):∀ {n:Nat} {t r:Ty},frontF s n t = some r → p t → p r
 | 0,t,r,h,_ => by cases h
 | n + 1,t,r,h,hp => by
  rw [frontF] at h
  by_cases ht:t.kind = 9
  ·rw [if_pos ht] at h
   cases he:elemT s t with
   | none => rw [he] at h; cases h
   | some x =>
    rw [he] at h
    simp only at h
    by_cases hk:x.kind = 0
    ·rw [if_pos hk] at h; injection h with h; rw [← h]; exact hp
    ·rw [if_neg hk] at h; exact front_inv hs h (hs t x hp ht he hk)
  ·rw [if_neg ht] at h; injection h with h; exact h ▸ hp
def Ex (s:List Ty) (t r:Ty):Prop:=∃ n,apF s n t = some r
theorem Ex.one {s:List Ty} {t r q:Ty} (h:Ex s t r) (k:Ex s t q):r = q:=by
 obtain ⟨n,h⟩:=h
 obtain ⟨m,k⟩:=k
 have h1:=ap_mono (Nat.le_max_left n m) h
 have h2:=ap_mono (Nat.le_max_right n m) k
 rw [h1] at h2
 exact Option.some.inj h2
theorem Ex.front {s:List Ty}:∀ {n:Nat} {t t' r:Ty},frontF s n t = some t' → Ex s t r → Ex s t' r
 | 0,t,t',r,h,_ => by cases h
 | n + 1,t,t',r,h,⟨m,k⟩ => by
  rw [frontF] at h
  by_cases ht:t.kind = 9
  ·rw [if_pos ht] at h
   cases he:elemT s t with
   | none => rw [he] at h; cases h
   | some x =>
    rw [he] at h
    simp only at h
    by_cases hk:x.kind = 0
    ·rw [if_pos hk] at h; injection h with h; rw [← h]; exact ⟨m,k⟩
    ·rw [if_neg hk] at h
     cases m with
     | zero => cases k
     | succ m =>
      rw [apF,if_pos ht,he] at k
      simp only at k
      rw [if_pos hk] at k
      exact Ex.front h ⟨m,k⟩
  ·rw [if_neg ht] at h; injection h with h; exact h ▸ ⟨m,k⟩
theorem Ex.args {s:List Ty} {t r:Ty} (h:Ex s t r) (h9:¬ t.kind = 9):r.kind = t.kind ∧ r.id = t.id ∧ r.args.length = t.args.length ∧ ∀ (j:Nat) (x:Ty),t.args[j]? = some x → ∃ y,r.args[j]? = some y ∧ Ex s x y:=by
 obtain ⟨n,h⟩:=h
 cases n with
 | zero => cases h
 | succ n =>
  rw [apF,if_neg h9] at h
  simp only at h
  rw [if_neg (fun q => q rfl)] at h
  cases hl:mapO (apF s n) t.args with
  | none => simp only [hl] at h; cases h
  | some l =>
   simp only [hl] at h
   injection h with h
   obtain ⟨h1,h2⟩:=mapO_some hl
   subst h
   refine ⟨rfl,rfl,by show l.length = _; rw [h2,List.length_map],fun j x hx => ?_⟩
   refine ⟨(apF s n x).getD x,by show l[j]? = _; rw [h2,List.getElem?_map,hx]; rfl,n,h1 x (List.mem_of_getElem? hx)⟩
theorem ins_kind {n:Int} {t:Ty} (h:ins n t = true):1 ≤ t.kind ∧ t.kind ≤ 9:=by
 rw [ins_eq] at h
 split at h
 ·cases h
 ·omega
theorem ins_var {n:Int} {t:Ty} (h:ins n t = true) (h9:t.kind = 9):0 ≤ t.id ∧ t.id < n ∧ t.args = []:=by
 have hk:=ins_kind h
 rw [ins_eq,if_neg (by omega),if_pos h9] at h
 simp only [Bool.and_eq_true,decide_eq_true_eq] at h
 exact ⟨h.1.1,h.1.2,List.eq_nil_of_length_eq_zero h.2⟩
theorem ins_args {n:Int} {t:Ty} (h:ins n t = true):∀ x ∈ t.args,ins n x = true:=by
 have hk:=ins_kind h
 by_cases h9:t.kind = 9
 ·rw [(ins_var h h9).2.2]; intro x hx; cases hx
 ·rw [ins_eq,if_neg (by omega),if_neg h9,List.all_eq_true] at h
  exact h
theorem ins_mkvar {n i:Int} (h0:0 ≤ i) (h1:i < n):ins n (.mk 9 i []) = true:=by
 rw [ins_eq,if_neg (by show ¬ ((9:Int) < 1 ∨ (9:Int) < 9); omega),if_pos (show (Ty.mk 9 i []).kind = 9 from rfl)]
 simp only [Bool.and_eq_true,decide_eq_true_eq]
 exact ⟨⟨h0,h1⟩,rfl⟩
theorem ins_vr {n:Nat} {i:Nat} (h:i < n):ins n (vr i) = true:=ins_mkvar (by omega) (by omega)
theorem ins_isvr {n:Nat} {t:Ty} (h:ins n t = true) (h9:t.kind = 9):∃ i:Nat,i < n ∧ t = vr i ∧ t.id = i:=by
 obtain ⟨h0,h1,h2⟩:=ins_var h h9
 refine ⟨t.id.toNat,by omega,ty_eq h9 ?_ h2,by omega⟩
 show t.id = (t.id.toNat:Int)
 omega
def InS (s:List Ty):Prop:=∀ x ∈ s,x.kind = 0 ∨ ins s.length x = true
theorem elem_mem {s:List Ty} {t x:Ty} (h:elemT s t = some x):x ∈ s:=List.mem_of_getElem? (elemT_some h).2.1
theorem InS.elem {s:List Ty} (h:InS s) {t x:Ty} (he:elemT s t = some x) (hk:¬ x.kind = 0):ins s.length x = true:=(h x (elem_mem he)).resolve_left hk
theorem InS.front {s:List Ty} (h:InS s) {n:Nat} {t r:Ty} (hf:frontF s n t = some r) (ht:ins s.length t = true):ins s.length r = true :=
 front_inv (p:=fun t => ins s.length t = true) (fun t x _ _ he hk => h.elem he hk) hf ht
theorem ins_elem {s:List Ty} {t:Ty} (ht:ins s.length t = true) (h9:t.kind = 9):∃ x,elemT s t = some x ∧ x ∈ s:=by
 obtain ⟨h0,h1,_⟩:=ins_var ht h9
 exact elemT_of h0 h1
structure Good (s:List Ty):Prop where
 ins:InS s
 fin:∀ i < s.length,FinT s (vr i)
theorem Good.all {s:List Ty} (g:Good s):∀ t:Ty,Try.ins s.length t = true → FinT s t:=tyInd fun t ih h => by
 by_cases h9:t.kind = 9
 ·obtain ⟨i,hi,e,_⟩:=ins_isvr h h9
  rw [e]; exact g.fin i hi
 ·exact .arg h9 fun y hy => ih y hy (ins_args h y hy)
def unsol:List Ty → Nat
 | [] => 0
 | x :: l => (if x.kind = 0 then 1 else 0) + unsol l
theorem unsol_set {b:Ty} (hb:¬ b.kind = 0):∀ {s:List Ty} {i:Nat} {x:Ty},s[i]? = some x → x.kind = 0 → unsol (s.set i b) < unsol s
 | [],i,x,h,_ => by simp at h
 | y :: s,0,x,h,hk => by
  rw [List.getElem?_cons_zero] at h
  injection h with h
  subst h
  rw [List.set_cons_zero,unsol,unsol,if_neg hb,if_pos hk]; omega
 | y :: s,i + 1,x,h,hk => by
  rw [List.getElem?_cons_succ] at h
  rw [List.set_cons_succ,unsol,unsol]
  have:=unsol_set hb h hk
  omega
theorem elem_set_ne {s:List Ty} {v:Int} {b t:Ty} (h0:0 ≤ v) (h:t.id ≠ v):elemT (s.set v.toNat b) t = elemT s t:=by
 unfold elemT
 split
 ·rfl
 ·rw [List.getElem?_set_ne (by omega)]
theorem elem_set_eq {s:List Ty} {v:Int} {b t x:Ty} (h0:0 ≤ v) (hx:s[v.toNat]? = some x) (h:t.id = v):elemT (s.set v.toNat b) t = some b:=by
 unfold elemT
 rw [if_neg (by omega),h,List.getElem?_set_self (List.getElem?_eq_some_iff.1 hx).1]
inductive FinN (s:List Ty) (v:Int):Ty → Prop
 | step {t x:Ty} (h9:t.kind = 9) (he:elemT s t = some x) (hk:¬ x.kind = 0) (h:FinN s v x):FinN s v t
 | stop {t x:Ty} (h9:t.kind = 9) (he:elemT s t = some x) (hk:x.kind = 0) (hv:t.id ≠ v) (ha:t.args = []):FinN s v t
 | arg {t:Ty} (h9:¬ t.kind = 9) (h:∀ y ∈ t.args,FinN s v y):FinN s v t
theorem FinN.front {s:List Ty} {v:Int}:∀ {n:Nat} {t r:Ty},frontF s n t = some r → FinN s v r → FinN s v t
 | 0,t,r,h,_ => by cases h
 | n + 1,t,r,h,k => by
  rw [frontF] at h
  by_cases ht:t.kind = 9
  ·rw [if_pos ht] at h
   cases he:elemT s t with
   | none => rw [he] at h; cases h
   | some x =>
    rw [he] at h
    simp only at h
    by_cases hk:x.kind = 0
    ·rw [if_pos hk] at h; injection h with h; rw [h]; exact k
    ·rw [if_neg hk] at h; exact .step ht he hk (FinN.front h k)
  ·rw [if_neg ht] at h; injection h with h; rw [h]; exact k
theorem FinN.of {s:List Ty} (hs:InS s) {v:Int}:∀ {n:Nat} {t:Ty},ins s.length t = true → occF s v n t = some false → FinN s v t
 | 0,t,_,h => by cases h
 | n + 1,t,ht,h => by
  rw [occF] at h
  cases hf:frontF s n t with
  | none => rw [hf] at h; cases h
  | some r =>
   rw [hf] at h
   have hr:=hs.front hf ht
   refine FinN.front hf ?_
   simp only at h
   by_cases h9:r.kind = 9
   ·rw [if_pos h9] at h
    obtain ⟨x,he,hk⟩:=front_stop hf h9
    exact .stop h9 he hk (by injection h with h; exact of_decide_eq_false h) (ins_var hr h9).2.2
   ·rw [if_neg h9] at h
    obtain ⟨h1,h2⟩:=anyO_some h
    refine .arg h9 fun y hy => FinN.of hs (n:=n) (ins_args hr y hy) ?_
    have:=(List.any_eq_false.1 h2) y hy
    rw [Bool.not_eq_true] at this
    rw [h1 y hy,this]
theorem FinN.set {s:List Ty} {v:Int} {b x0 t:Ty} (h0:0 ≤ v) (hx:s[v.toNat]? = some x0) (hk0:x0.kind = 0) (h:FinN s v t):FinT (s.set v.toNat b) t:=by
 induction h with
 | @step t x h9 he hk _ ih =>
  have:t.id ≠ v:=fun e => by
   obtain ⟨_,e2,_⟩:=elemT_some he
   rw [e,hx] at e2
   injection e2 with e2
   exact hk (e2 ▸ hk0)
  exact .step h9 ((elem_set_ne h0 this).trans he) hk ih
 | @stop t x h9 he hk hv ha => exact .stop h9 ((elem_set_ne h0 hv).trans he) hk (by rw [ha]; intro y hy; cases hy)
 | @arg t h9 _ ih => exact .arg h9 ih
theorem FinT.set {s:List Ty} {v:Int} {b x0 t:Ty} (h0:0 ≤ v) (hx:s[v.toNat]? = some x0) (hk0:x0.kind = 0) (hbk:¬ b.kind = 0) (hb:FinT (s.set v.toNat b) b) (h:FinT s t):FinT (s.set v.toNat b) t:=by
 induction h with
 | @step t x h9 he hk _ ih =>
  have:t.id ≠ v:=fun e => by
   obtain ⟨_,e2,_⟩:=elemT_some he
   rw [e,hx] at e2
   injection e2 with e2
   exact hk (e2 ▸ hk0)
  exact .step h9 ((elem_set_ne h0 this).trans he) hk ih
 | @stop t x h9 he hk _ ih =>
  by_cases e:t.id = v
  ·exact .step h9 (elem_set_eq h0 hx e) hbk hb
  ·exact .stop h9 ((elem_set_ne h0 e).trans he) hk ih
 | @arg t h9 _ ih => exact .arg h9 ih
structure Nxt (s s':List Ty):Prop where
 len:s'.length = s.length
 good:Good s'
 less:s' = s ∨ unsol s' < unsol s
theorem Nxt.refl {s:List Ty} (g:Good s):Nxt s s:=⟨rfl,g,.inl rfl⟩
theorem Nxt.trans {s t r:List Ty} (h:Nxt s t) (k:Nxt t r):Nxt s r:=by
 refine ⟨k.len.trans h.len,k.good,?_⟩
 rcases h.less with e | h1
 ·subst e; exact k.less
 ·rcases k.less with e | h2
  ·subst e; exact .inr h1
  ·exact .inr (by omega)
theorem Good.bind {s:List Ty} (g:Good s) {v:Int} {b x0:Ty} (h0:0 ≤ v) (hx:s[v.toNat]? = some x0) (hk0:x0.kind = 0) (hb:Try.ins s.length b = true) (hn:FinN s v b):Nxt s (s.set v.toNat b):=by
 have hbk:¬ b.kind = 0:=by have:=ins_kind hb; omega
 have hfb:FinT (s.set v.toNat b) b:=hn.set h0 hx hk0
 refine ⟨List.length_set,⟨fun y hy => ?_,fun i hi => ?_⟩,.inr (unsol_set hbk hx hk0)⟩
 ·rw [List.length_set]
  rcases List.mem_or_eq_of_mem_set hy with hy | rfl
  ·exact g.ins y hy
  ·exact .inr hb
 ·rw [List.length_set] at hi
  exact FinT.set h0 hx hk0 hbk hfb (g.fin i hi)
theorem eqF_at {n:Nat} {s:List Ty} {a b a' b':Ty} (ha:frontF s n a = some a') (hb:frontF s n b = some b'):eqF (n + 1) s a b =
   if a'.kind = 9 ∧ b'.kind = 9 then (if a'.id = b'.id then some (some s) else some (some (s.set (max a'.id b'.id).toNat (.mk 9 (min a'.id b'.id) []))))
   else if a'.kind = 9 then (match occF s a'.id n b' with
    | none => none
    | some true => some none
    | some false => some (some (s.set a'.id.toNat b')))
   else if b'.kind = 9 then eqF n s b' a'
   else if a'.kind ≠ b'.kind ∨ a'.id ≠ b'.id ∨ a'.args.length ≠ b'.args.length then some none
   else eqLF (eqF n) s a'.args b'.args:=by
 rw [eqF]; simp only [ha,hb]; rfl
def Ends (s:List Ty) (a b:Ty):Prop:=∃ n r,eqF n s a b = some r ∧ ∀ s',r = some s' → Nxt s s'
theorem eq_var {s:List Ty} (g:Good s) {a' b':Ty} (ha:Try.ins s.length a' = true) (hb:Try.ins s.length b' = true) (h9:a'.kind = 9) (hae:∃ x,elemT s a' = some x ∧ x.kind = 0) (hbe:b'.kind = 9 → ∃ x,elemT s b' = some x ∧ x.kind = 0) :
  ∃ n0 r,(∀ s',r = some s' → Nxt s s') ∧ ∀ n,n0 ≤ n → ∀ a b,frontF s n a = some a' → frontF s n b = some b' → eqF (n + 1) s a b = some r:=by
 obtain ⟨xa,hxa,hka⟩:=hae
 obtain ⟨ea1,ea2,ea3⟩:=elemT_some hxa
 by_cases hb9:b'.kind = 9
 ·obtain ⟨xb,hxb,hkb⟩:=hbe hb9
  obtain ⟨eb1,eb2,eb3⟩:=elemT_some hxb
  by_cases hi:a'.id = b'.id
  ·refine ⟨0,some s,fun s' e => by injection e with e; subst e; exact Nxt.refl g,fun n _ a b h1 h2 => ?_⟩
   rw [eqF_at h1 h2,if_pos ⟨h9,hb9⟩,if_pos hi]
  ·refine ⟨0,some (s.set (max a'.id b'.id).toNat (.mk 9 (min a'.id b'.id) [])),fun s' e => ?_,fun n _ a b h1 h2 => ?_⟩
   ·injection e with e
    subst e
    have hmx:∃ x0,s[(max a'.id b'.id).toNat]? = some x0 ∧ x0.kind = 0:=by
     rcases Int.le_total a'.id b'.id with hle | hle
     ·rw [Int.max_eq_right hle]; exact ⟨xb,eb2,hkb⟩
     ·rw [Int.max_eq_left hle]; exact ⟨xa,ea2,hka⟩
    have hmn:∃ x0,elemT s (.mk 9 (min a'.id b'.id) []) = some x0 ∧ x0.kind = 0:=by
     rcases Int.le_total a'.id b'.id with hle | hle
     ·rw [Int.min_eq_left hle]; exact ⟨xa,hxa,hka⟩
     ·rw [Int.min_eq_right hle]; exact ⟨xb,hxb,hkb⟩
    obtain ⟨x0,q1,q2⟩:=hmx
    obtain ⟨x1,q3,q4⟩:=hmn
    have hne:min a'.id b'.id ≠ max a'.id b'.id:=by omega
    exact g.bind (by omega) q1 q2 (ins_mkvar (by omega) (by omega)) (.stop rfl q3 q4 hne rfl)
   ·rw [eqF_at h1 h2,if_pos ⟨h9,hb9⟩,if_neg hi]
 ·obtain ⟨n0,r,ho⟩:=(g.all b' hb).occ a'.id
  cases r with
  | true =>
   refine ⟨n0,none,fun s' e => (by cases e),fun n hn a b h1 h2 => ?_⟩
   rw [eqF_at h1 h2,if_neg (fun q => hb9 q.2),if_pos h9,occ_mono hn ho]
  | false =>
   refine ⟨n0,some (s.set a'.id.toNat b'),fun s' e => ?_,fun n hn a b h1 h2 => ?_⟩
   ·injection e with e
    subst e
    exact g.bind ea1 ea2 hka hb (FinN.of g.ins hb ho)
   ·rw [eqF_at h1 h2,if_neg (fun q => hb9 q.2),if_pos h9,occ_mono hn ho]
theorem eqL_total {N:Nat} (hN:∀ s,Good s → unsol s < N → ∀ a b,Try.ins s.length a = true → Try.ins s.length b = true → Ends s a b) {s0:List Ty} (hu:unsol s0 ≤ N) :
  ∀ (l l':List Ty),l.length = l'.length → (∀ (j:Nat) (x y:Ty),l[j]? = some x → l'[j]? = some y → Try.ins s0.length x = true ∧ Try.ins s0.length y = true ∧ Ends s0 x y) → ∀ s,Nxt s0 s → ∃ n r,eqLF (eqF n) s l l' = some r ∧ ∀ s',r = some s' → Nxt s0 s'
 | [],l',_,_,s,hs => ⟨0,some s,rfl,fun s' e => by injection e with e; exact e ▸ hs⟩
 | x :: l,[],h,_,s,hs => by cases h
 | x :: l,y :: l',h,hl,s,hs => by
  obtain ⟨hx,hy,he⟩:=hl 0 x y rfl rfl
  have h1:Ends s x y:=by
   rcases hs.less with e | hlt
   ·rw [e]; exact he
   ·exact hN s hs.good (by omega) x y (by rw [hs.len]; exact hx) (by rw [hs.len]; exact hy)
  obtain ⟨n,r,h1,h2⟩:=h1
  cases r with
  | none => exact ⟨n,none,by rw [eqLF,h1],fun s' e => by cases e⟩
  | some s1 =>
   obtain ⟨m,r,h3,h4⟩:=eqL_total hN hu l l' (by simpa using h) (fun j x y hx hy => hl (j + 1) x y hx hy) s1 (hs.trans (h2 s1 rfl))
   refine ⟨max n m,r,?_,h4⟩
   rw [eqLF,eq_mono (Nat.le_max_left n m) h1]
   exact eqLF_mono (fun s x y b hb => eq_mono (Nat.le_max_right n m) hb) h3
theorem eq_total:∀ (N:Nat) (s:List Ty),Good s → unsol s < N → ∀ a b,ins s.length a = true → ins s.length b = true → Ends s a b
 | 0,s,_,h,_,_,_,_ => absurd h (Nat.not_lt_zero _)
 | N + 1,s,g,hu,a,b,ha,hb => by
  have hN:=eq_total N
  have main:∀ (M:Nat) (a b ra rb:Ty),ins s.length a = true → ins s.length b = true → Ex s a ra → Ex s b rb → SizeOf.sizeOf ra + SizeOf.sizeOf rb < M → Ends s a b:=by
   intro M
   induction M with
   | zero => intro a b ra rb _ _ _ _ h; exact absurd h (Nat.not_lt_zero _)
   | succ M ih =>
    intro a b ra rb ha hb hra hrb hM
    obtain ⟨n1,a',fa⟩:=(g.all a ha).front
    obtain ⟨n2,b',fb⟩:=(g.all b hb).front
    have ha':=g.ins.front fa ha
    have hb':=g.ins.front fb hb
    have hea:=hra.front fa
    have heb:=hrb.front fb
    by_cases h9:a'.kind = 9
    ·obtain ⟨n0,r,h1,h2⟩:=eq_var g ha' hb' h9 (front_stop fa h9) (fun q => front_stop fb q)
     exact ⟨_,r,h2 (max n0 (max n1 n2)) (by omega) a b (front_mono (by omega) fa) (front_mono (by omega) fb),h1⟩
    by_cases h9b:b'.kind = 9
    ·obtain ⟨n0,r,h1,h2⟩:=eq_var g hb' ha' h9b (front_stop fb h9b) (fun q => absurd q h9)
     refine ⟨max n0 (max n1 n2) + 1 + 1 + 1,r,?_,h1⟩
     rw [eqF_at (front_mono (by omega) fa) (front_mono (by omega) fb),if_neg (fun q => h9 q.1),if_neg h9,if_pos h9b]
     exact h2 _ (by omega) b' a' (front_front fb) (front_front fa)
    by_cases hd:a'.kind ≠ b'.kind ∨ a'.id ≠ b'.id ∨ a'.args.length ≠ b'.args.length
    ·refine ⟨max n1 n2 + 1,none,?_,fun s' e => by cases e⟩
     rw [eqF_at (front_mono (by omega) fa) (front_mono (by omega) fb),if_neg (fun q => h9 q.1),if_neg h9,if_neg h9b,if_pos hd]
    ·obtain ⟨e1,e2,e3,e4⟩:=hea.args h9
     obtain ⟨f1,f2,f3,f4⟩:=heb.args h9b
     obtain ⟨n,r,h1,h2⟩:=eqL_total hN (show unsol s ≤ N by omega) a'.args b'.args (by omega) (fun j x y hx hy => by
      obtain ⟨x',hx',hex⟩:=e4 j x hx
      obtain ⟨y',hy',hey⟩:=f4 j y hy
      have s1:=ty_lt (List.mem_of_getElem? hx')
      have s2:=ty_lt (List.mem_of_getElem? hy')
      have hx2:=ins_args ha' x (List.mem_of_getElem? hx)
      have hy2:=ins_args hb' y (List.mem_of_getElem? hy)
      exact ⟨hx2,hy2,ih x y x' y' hx2 hy2 hex hey (by omega)⟩) s (Nxt.refl g)
     refine ⟨max n (max n1 n2) + 1,r,?_,h2⟩
     rw [eqF_at (front_mono (by omega) fa) (front_mono (by omega) fb),if_neg (fun q => h9 q.1),if_neg h9,if_neg h9b,if_neg hd]
     exact eqLF_mono (fun s x y b hb => eq_mono (by omega) hb) h1
  obtain ⟨na,ra,hra⟩:=(g.all a ha).ap
  obtain ⟨nb,rb,hrb⟩:=(g.all b hb).ap
  exact main _ a b ra rb ha hb ⟨na,hra⟩ ⟨nb,hrb⟩ (Nat.lt_succ_self _)
def nop (o:OM):Nat → Nat
 | 0 => 0
 | i + 1 => nop o i + (if mget o i = some true then 0 else 1)
def OLe (o o':OM):Prop:=∀ i,mget o i = some true → mget o' i = some true
theorem nop_le {o o':OM} (h:OLe o o'):∀ n,nop o' n ≤ nop o n
 | 0 => Nat.le_refl _
 | n + 1 => by
  rw [nop,nop]
  have:=nop_le h n
  by_cases e:mget o n = some true
  ·rw [if_pos e,if_pos (h _ e)]; omega
  ·rw [if_neg e]; split <;> omega
theorem nop_lt {o o':OM} (h:OLe o o') {i:Nat} (h1:¬ mget o i = some true) (h2:mget o' i = some true):∀ n,i < n → nop o' n < nop o n
 | 0,hi => absurd hi (Nat.not_lt_zero _)
 | n + 1,hi => by
  rw [nop,nop]
  by_cases e:i = n
  ·subst e
   rw [if_neg h1,if_pos h2]
   have:=nop_le h i
   omega
  ·have:=nop_lt h h1 h2 n (by omega)
   by_cases e:mget o n = some true
   ·rw [if_pos e,if_pos (h _ e)]; omega
   ·rw [if_neg e]; split <;> omega
theorem OLe.set (o:OM) (i:Int):OLe o (mset o i true):=fun j h => by
 rw [mget_set]; split
 ·rfl
 ·exact h
def Deeps (s:List Ty) (t:Ty) (d:DM) (o:OM):Prop:=∃ n r,deepF s n t d o = some r ∧ ∀ k d' o',r = some (k,d',o') → OLe o o'
theorem deepL_total {s:List Ty} {K:Nat}:∀ (l:List Ty),(∀ x ∈ l,∀ d o,nop o s.length < K → Deeps s x d o) → ∀ k d o,nop o s.length < K → ∃ n r,deepL (deepF s n) l k d o = some r ∧ ∀ k d' o',r = some (k,d',o') → OLe o o'
 | [],_,k,d,o,_ => ⟨0,_,rfl,fun k' d' o' e => by injection e with e; injection e with _ e; injection e with _ e; subst e; exact fun i h => h⟩
 | x :: l,h,k,d,o,ho => by
  obtain ⟨n,r,h1,h2⟩:=h x (by simp) d o ho
  cases r with
  | none => exact ⟨n,none,by rw [deepL,h1],fun k d' o' e => by cases e⟩
  | some q =>
   obtain ⟨k',d',o'⟩:=q
   have hle:=h2 k' d' o' rfl
   obtain ⟨m,r,h3,h4⟩:=deepL_total l (fun x hx => h x (by simp [hx])) (if k' > k then k' else k) d' o' (by have:=nop_le hle s.length; omega)
   refine ⟨max n m,r,?_,fun k d2 o2 e i hi => h4 k d2 o2 e i (hle i hi)⟩
   rw [deepL,deep_mono (Nat.le_max_left n m) h1]
   exact deepL_mono (fun x d o b hb => deep_mono (Nat.le_max_right n m) hb) h3
theorem deepF_arg {n:Nat} {s:List Ty} {t x:Ty} {d:DM} {o:OM} (he:(if t.kind = 9 then elemT s t else some (.mk 0 0 [])) = some x) (hk:x.kind = 0):deepF s (n + 1) t d o = (match deepL (deepF s n) t.args 0 d o with
    | some (some (k,d',o')) => some (some (w64 (k + 1),d',o'))
    | some none => some none
    | none => none):=by
 rw [deepF,he]; simp only; rw [if_neg (fun q => q hk)]; rfl
theorem deepF_sol {n:Nat} {s:List Ty} {t x:Ty} {d:DM} {o:OM} (h9:t.kind = 9) (he:elemT s t = some x) (hk:¬ x.kind = 0) (hd:mget d t.id = none) (ho:¬ mget o t.id = some true) {r:Option (Int × DM × OM)} (h:deepF s n x d (mset o t.id true) = some r):deepF s (n + 1) t d o = some (r.map fun p => (p.1,mset p.2.1 t.id p.1,p.2.2)):=by
 rw [deepF,if_pos h9,he]; simp only; rw [if_pos hk,hd]
 simp only
 cases hm:mget o t.id with
 | none =>
  rw [h]
  cases r <;> rfl
 | some u =>
  cases u with
  | true => exact absurd hm ho
  | false =>
   rw [h]
   cases r <;> rfl
theorem deep_total {s:List Ty} (hs:InS s):∀ (K:Nat) (t:Ty),ins s.length t = true → ∀ d o,nop o s.length < K → Deeps s t d o
 | 0 => fun t _ d o h => absurd h (Nat.not_lt_zero _)
 | K + 1 => tyInd (p:=fun t => ins s.length t = true → ∀ d o,nop o s.length < K + 1 → Deeps s t d o) fun t ih ht d o ho => by
  have hargs:∀ x,(if t.kind = 9 then elemT s t else some (.mk 0 0 [])) = some x → x.kind = 0 → Deeps s t d o:=fun x he hk => by
   obtain ⟨n,r,h1,h2⟩:=deepL_total t.args (fun x hx d o ho => ih x hx (ins_args ht x hx) d o ho) 0 d o ho
   refine ⟨n + 1,r.map fun p => (w64 (p.1 + 1),p.2.1,p.2.2),?_,fun k d' o' e => ?_⟩
   ·rw [deepF_arg he hk,h1]
    cases r with
    | none => rfl
    | some p => rfl
   ·cases r with
    | none => cases e
    | some p =>
     obtain ⟨k1,d1,o1⟩:=p
     simp only [Option.map_some] at e
     injection e with e
     injection e with _ e
     injection e with _ e
     subst e
     exact h2 _ _ _ rfl
  by_cases h9:t.kind = 9
  ·obtain ⟨x,he,hx⟩:=ins_elem ht h9
   by_cases hk:x.kind = 0
   ·exact hargs x (by rw [if_pos h9]; exact he) hk
   obtain ⟨i,hi,_,hid⟩:=ins_isvr ht h9
   have e0:(if t.kind = 9 then elemT s t else some (.mk 0 0 [])) = some x:=by rw [if_pos h9]; exact he
   cases hd:mget d t.id with
   | some k => exact ⟨1,_,by rw [deepF,e0]; simp only; rw [if_pos hk,hd],fun k d' o' e => by injection e with e; injection e with _ e; injection e with _ e; subst e; exact fun i h => h⟩
   | none =>
    by_cases hot:mget o t.id = some true
    ·exact ⟨1,none,by rw [deepF,e0]; simp only; rw [if_pos hk,hd,hot],fun k d' o' e => by cases e⟩
    ·have hlt:=nop_lt (OLe.set o t.id) (i:=i) (by rw [← hid]; exact hot) (by rw [mget_set,if_pos hid.symm]) s.length hi
     obtain ⟨n,r,h1,h2⟩:=deep_total hs K x (hs.elem he hk) d (mset o t.id true) (by omega)
     refine ⟨n + 1,r.map fun p => (p.1,mset p.2.1 t.id p.1,p.2.2),?_,fun k d' o' e => ?_⟩
     ·exact deepF_sol h9 he hk hd hot h1
     ·cases r with
      | none => cases e
      | some p =>
       obtain ⟨k1,d1,o1⟩:=p
       simp only [Option.map_some] at e
       injection e with e
       injection e with _ e
       injection e with _ e
       subst e
       exact fun i hi => h2 _ _ _ rfl i (OLe.set o t.id i hi)
  ·exact hargs _ (by rw [if_neg h9]) rfl
theorem deep_all {s:List Ty} (hs:InS s) {t:Ty} (ht:ins s.length t = true) (d:DM) (o:OM):∃ n r,deepF s n t d o = some r:=by
 obtain ⟨n,r,h,_⟩:=deep_total hs _ t ht d o (Nat.lt_succ_self _)
 exact ⟨n,r,h⟩
theorem elems_InS {s:List Ty} (h:s.all (elemOk s.length) = true):InS s:=fun x hx => by
 have:=(List.all_eq_true.1 h) x hx
 unfold elemOk at this
 split at this
 ·rename_i hk; exact .inl hk
 ·exact .inr this
theorem formL_total {s:List Ty} (hs:InS s):∀ i,i ≤ s.length → ∃ n r,formL s n i = some r
 | 0,_ => ⟨0,_,rfl⟩
 | i + 1,hi => by
  obtain ⟨n,r,h1⟩:=formL_total hs i (by omega)
  cases r with
  | none => exact ⟨n,none,by rw [formL,h1]⟩
  | some p =>
   obtain ⟨b,d,o⟩:=p
   obtain ⟨m,r,h2⟩:=deep_all hs (ins_vr (show i < s.length by omega)) d o
   cases r with
   | none => exact ⟨max n m,none,by rw [formL,formL_mono (Nat.le_max_left n m) h1]; simp only; rw [deep_mono (Nat.le_max_right n m) h2]⟩
   | some q => exact ⟨max n m,some (b || decide (q.1 > 8),q.2.1,q.2.2),by rw [formL,formL_mono (Nat.le_max_left n m) h1]; simp only; rw [deep_mono (Nat.le_max_right n m) h2]⟩
theorem formR_total (s:List Ty):∃ n r,formR s n = some r:=by
 cases ha:s.all (elemOk s.length) with
 | false => exact ⟨0,none,by unfold formR; rw [if_neg (by rw [ha]; exact Bool.false_ne_true)]⟩
 | true =>
  obtain ⟨n,r,h⟩:=formL_total (elems_InS ha) s.length (Nat.le_refl _)
  cases r with
  | none => exact ⟨n,none,by unfold formR; rw [if_pos ha,h]⟩
  | some p =>
   obtain ⟨b,d,o⟩:=p
   cases b with
   | true => exact ⟨n,none,by unfold formR; rw [if_pos ha,h]; rfl⟩
   | false => exact ⟨n,some (d,o),by unfold formR; rw [if_pos ha,h]; rfl⟩
def FinI (s:List Ty) (i:Int):Prop:=∀ t:Ty,t.kind = 9 → t.id = i → FinT s t
def FinD (s:List Ty) (d:DM):Prop:=∀ i,mget d i ≠ none → FinI s i
theorem deepL_fin {s:List Ty} {n:Nat}:∀ {l:List Ty},(∀ x ∈ l,∀ d o k d' o',deepF s n x d o = some (some (k,d',o')) → FinD s d → FinT s x ∧ FinD s d') → ∀ {k:Int} {d:DM} {o:OM} {k':Int} {d':DM} {o':OM},deepL (deepF s n) l k d o = some (some (k',d',o')) → FinD s d → (∀ x ∈ l,FinT s x) ∧ FinD s d'
 | [],_,k,d,o,k',d',o',h,hd => by
  rw [deepL] at h
  injection h with h
  injection h with h
  injection h with _ h
  injection h with h _
  subst h
  exact ⟨fun x hx => (by cases hx),hd⟩
 | x :: l,hx,k,d,o,k',d',o',h,hd => by
  rw [deepL] at h
  cases h1:deepF s n x d o with
  | none => rw [h1] at h; cases h
  | some r =>
   rw [h1] at h
   cases r with
   | none => cases h
   | some p =>
    obtain ⟨k1,d1,o1⟩:=p
    obtain ⟨q1,q2⟩:=hx x (by simp) d o k1 d1 o1 h1 hd
    obtain ⟨q3,q4⟩:=deepL_fin (fun y hy => hx y (by simp [hy])) h q2
    refine ⟨fun y hy => ?_,q4⟩
    rcases List.mem_cons.1 hy with rfl | hy
    ·exact q1
    ·exact q3 y hy
theorem elem_id {s:List Ty} {t u:Ty} (h:u.id = t.id):elemT s u = elemT s t:=by unfold elemT; rw [h]
theorem deep_fin {s:List Ty}:∀ {n:Nat} {t:Ty} {d:DM} {o:OM} {k:Int} {d':DM} {o':OM},deepF s n t d o = some (some (k,d',o')) → FinD s d → FinT s t ∧ FinD s d'
 | 0,t,d,o,k,d',o',h,_ => by cases h
 | n + 1,t,d,o,k,d',o',h,hd => by
  rw [deepF] at h
  cases he:(if t.kind = 9 then elemT s t else some (.mk 0 0 [])) with
  | none => simp only [he] at h; cases h
  | some x =>
   simp only [he] at h
   by_cases hk:x.kind = 0
   ·rw [if_neg (fun q => q hk)] at h
    cases hl:deepL (deepF s n) t.args 0 d o with
    | none => simp only [hl] at h; cases h
    | some r =>
     simp only [hl] at h
     cases r with
     | none => cases h
     | some p =>
      obtain ⟨k1,d1,o1⟩:=p
      injection h with h
      injection h with h
      injection h with _ h
      injection h with h _
      subst h
      obtain ⟨q1,q2⟩:=deepL_fin (fun x _ d o k d' o' h hd => deep_fin h hd) hl hd
      refine ⟨?_,q2⟩
      by_cases h9:t.kind = 9
      ·rw [if_pos h9] at he; exact .stop h9 he hk q1
      ·exact .arg h9 q1
   ·rw [if_pos hk] at h
    have h9:t.kind = 9:=by
     by_cases h9:t.kind = 9
     ·exact h9
     ·rw [if_neg h9] at he
      injection he with he
      exact absurd (by rw [← he]; rfl) hk
    rw [if_pos h9] at he
    cases hm:mget d t.id with
    | some k0 =>
     simp only [hm] at h
     injection h with h
     injection h with h
     injection h with _ h
     injection h with h _
     subst h
     exact ⟨hd t.id (by rw [hm]; simp) t h9 rfl,hd⟩
    | none =>
     simp only [hm] at h
     have key:∀ k1 d1 o1,deepF s n x d (mset o t.id true) = some (some (k1,d1,o1)) → FinT s t ∧ FinD s (mset d1 t.id k1):=by
      intro k1 d1 o1 hx
      obtain ⟨q1,q2⟩:=deep_fin hx hd
      refine ⟨.step h9 he hk q1,fun i hi => ?_⟩
      rw [mget_set] at hi
      by_cases e:i = t.id
      ·intro u hu hui
       exact .step hu ((elem_id (hui.trans e)).trans he) hk q1
      ·rw [if_neg e] at hi; exact q2 i hi
     have fin:∀ X:Option (Option (Int × DM × OM)),(match X with
       | some (some (k,d',o')) => some (some (k,mset d' t.id k,o'))
       | some none => some none
       | none => none) = some (some (k,d',o')) → ∃ d1,X = some (some (k,d1,o')) ∧ d' = mset d1 t.id k:=by
      intro X hX
      cases X with
      | none => cases hX
      | some q =>
       cases q with
       | none => cases hX
       | some p =>
        obtain ⟨k1,d1,o1⟩:=p
        injection hX with hX
        injection hX with hX
        injection hX with e1 hX
        injection hX with e2 e3
        subst e1 e3
        exact ⟨d1,rfl,e2.symm⟩
     have ho:¬ mget o t.id = some true:=fun q => by rw [q] at h; cases h
     have h:(match deepF s n x d (mset o t.id true) with
       | some (some (k,d',o')) => some (some (k,mset d' t.id k,o'))
       | some none => some none
       | none => none) = some (some (k,d',o')):=by
      cases hm:mget o t.id with
      | none => rw [hm] at h; exact h
      | some u =>
       cases u with
       | true => exact absurd hm ho
       | false => rw [hm] at h; exact h
     obtain ⟨d1,h1,h2⟩:=fin _ h
     rw [h2]
     exact key _ _ _ h1
theorem formL_fin {s:List Ty} {n:Nat}:∀ {i:Nat} {b:Bool} {d:DM} {o:OM},formL s n i = some (some (b,d,o)) → (∀ j < i,FinT s (vr j)) ∧ FinD s d
 | 0,b,d,o,h => by
  rw [formL] at h
  injection h with h
  injection h with h
  injection h with _ h
  injection h with h _
  subst h
  exact ⟨fun j hj => absurd hj (Nat.not_lt_zero _),fun i hi => absurd rfl hi⟩
 | i + 1,b,d,o,h => by
  rw [formL] at h
  cases h1:formL s n i with
  | none => rw [h1] at h; cases h
  | some r =>
   rw [h1] at h
   cases r with
   | none => cases h
   | some p =>
    obtain ⟨b1,d1,o1⟩:=p
    obtain ⟨q1,q2⟩:=formL_fin h1
    simp only at h
    cases h2:deepF s n (vr i) d1 o1 with
    | none => rw [h2] at h; cases h
    | some r =>
     rw [h2] at h
     cases r with
     | none => cases h
     | some p =>
      obtain ⟨k2,d2,o2⟩:=p
      injection h with h
      injection h with h
      injection h with _ h
      injection h with h _
      subst h
      obtain ⟨q3,q4⟩:=deep_fin h2 q2
      refine ⟨fun j hj => ?_,q4⟩
      by_cases e:j = i
      ·rw [e]; exact q3
      ·exact q1 j (by omega)
theorem formR_good {s:List Ty} {n:Nat} {d:DM} {o:OM} (h:formR s n = some (some (d,o))):Good s:=by
 unfold formR at h
 split at h
 ·rename_i ha
  cases hl:formL s n s.length with
  | none => simp only [hl] at h; cases h
  | some r =>
   cases r with
   | none => simp only [hl] at h; cases h
   | some p =>
    obtain ⟨b,d,o⟩:=p
    exact ⟨elems_InS ha,(formL_fin hl).1⟩
 ·cases h
theorem canon_total {s:List Ty} (g:Good s):∃ n r,canonF s n = some r:=by
 have h1:∀ i ∈ List.range s.length,∃ n r,frontF s n (vr i) = some r:=fun i hi => (g.fin i (List.mem_range.1 hi)).front
 have h2:∀ i ∈ List.range s.length,∃ n r,apF s n (vr i) = some r:=fun i hi => (g.fin i (List.mem_range.1 hi)).ap
 obtain ⟨n1,h1⟩:=fuel_all (f:=fun n i => frontF s n (vr i)) front_mono h1
 obtain ⟨n2,h2⟩:=fuel_all (f:=fun n i => apF s n (vr i)) ap_mono h2
 have l1:∀ i,i ≤ s.length → ∀ d,∃ r,leastF s n1 i d = some r:=by
  intro i
  induction i with
  | zero => exact fun _ d => ⟨d,rfl⟩
  | succ i ih =>
   intro hi d
   obtain ⟨t,ht⟩:=h1 i (List.mem_range.2 (by omega))
   obtain ⟨r,hr⟩:=ih (by omega) (if t.kind = 9 then mset d t.id i else d)
   exact ⟨r,by rw [leastF,ht]; exact hr⟩
 obtain ⟨m,hm⟩:=l1 s.length (Nat.le_refl _) []
 have l2:∀ i,i ≤ s.length → ∃ r,canL s n2 m i = some r:=by
  intro i
  induction i with
  | zero => exact fun _ => ⟨[],rfl⟩
  | succ i ih =>
   intro hi
   obtain ⟨t,ht⟩:=h2 i (List.mem_range.2 (by omega))
   obtain ⟨r,hr⟩:=ih (by omega)
   exact ⟨_,by rw [canL,hr,ht]⟩
 obtain ⟨r,hr⟩:=l2 s.length (Nat.le_refl _)
 refine ⟨max n1 n2,r,?_⟩
 unfold canonF
 rw [least_mono (Nat.le_max_left n1 n2) hm]
 exact canL_mono (Nat.le_max_right n1 n2) hr
theorem preU_ins {s:List Ty} {a b:Ty} (h:preU s a b = true):ins s.length a = true ∧ ins s.length b = true ∧ dpt a ≤ 8 ∧ dpt b ≤ 8:=by
 unfold preU at h
 simp only [Bool.and_eq_true,Bool.not_eq_true',decide_eq_false_iff_not] at h
 exact ⟨h.1.1,h.1.2,by omega,by omega⟩
theorem fuelU (s:List Ty) (a b:Ty):∃ n,Fuel n s a b ∧ (∀ s',U1G n s a b s' → ∃ r,canonF s' n = some r) ∧ ∀ s',U1G n s a b s' → Nxt s s':=by
 obtain ⟨n1,r1,h1⟩:=formR_total s
 by_cases hc:(∃ d o,r1 = some (d,o)) ∧ preU s a b = true
 ·obtain ⟨⟨d,o,rfl⟩,hp⟩:=hc
  have g:=formR_good h1
  obtain ⟨i1,i2,_,_⟩:=preU_ins hp
  obtain ⟨n2,r2,h2,h3⟩:=eq_total _ s g (Nat.lt_succ_self _) a b i1 i2
  cases r2 with
  | none =>
   refine ⟨max n1 n2,⟨⟨_,formR_mono (Nat.le_max_left n1 n2) h1⟩,fun _ _ => ⟨_,eq_mono (Nat.le_max_right n1 n2) h2⟩,fun _ _ s' e => ?_,fun _ _ s' e => ?_⟩,fun s' e => ?_,fun s' e => ?_⟩
   ·rw [eq_mono (Nat.le_max_right n1 n2) h2] at e; cases e
   ·rw [eq_mono (Nat.le_max_right n1 n2) h2] at e; cases e
   ·have e:=e.2.2.1; rw [eq_mono (Nat.le_max_right n1 n2) h2] at e; cases e
   ·have e:=e.2.2.1; rw [eq_mono (Nat.le_max_right n1 n2) h2] at e; cases e
  | some s' =>
   have nx:=h3 s' rfl
   obtain ⟨n3,r3,h4⟩:=formR_total s'
   obtain ⟨n4,r4,h5⟩:=canon_total nx.good
   have hd:∃ n5,∀ d o,r3 = some (d,o) → ∃ r,deepF s' n5 a d o = some r:=by
    cases r3 with
    | none => exact ⟨0,fun d o e => by cases e⟩
    | some p =>
     obtain ⟨n5,r5,h6⟩:=deep_all nx.good.ins (show ins s'.length a = true by rw [nx.len]; exact i1) p.1 p.2
     exact ⟨n5,fun d o e => by injection e with e; rw [e] at h6; exact ⟨r5,h6⟩⟩
   obtain ⟨n5,h6⟩:=hd
   have b1:n1 ≤ n1 + n2 + n3 + n4 + n5:=by omega
   have b2:n2 ≤ n1 + n2 + n3 + n4 + n5:=by omega
   have b3:n3 ≤ n1 + n2 + n3 + n4 + n5:=by omega
   have b4:n4 ≤ n1 + n2 + n3 + n4 + n5:=by omega
   have b5:n5 ≤ n1 + n2 + n3 + n4 + n5:=by omega
   generalize n1 + n2 + n3 + n4 + n5 = n at b1 b2 b3 b4 b5
   have e1:∀ {s''},eqF n s a b = some (some s'') → s'' = s':=fun e => by
    rw [eq_mono b2 h2] at e; injection e with e; injection e with e; exact e.symm
   refine ⟨n,⟨⟨_,formR_mono b1 h1⟩,fun _ _ => ⟨_,eq_mono b2 h2⟩,fun _ _ s'' e => ?_,fun _ _ s'' e d o hf => ?_⟩,fun s'' e => ?_,fun s'' e => ?_⟩
   ·rw [e1 e]; exact ⟨_,formR_mono b3 h4⟩
   ·rw [e1 e] at hf ⊢
    rw [formR_mono b3 h4] at hf
    injection hf with hf
    obtain ⟨r,hr⟩:=h6 d o hf
    exact ⟨r,deep_mono b5 hr⟩
   ·rw [e1 e.2.2.1]; exact ⟨_,canon_mono b4 h5⟩
   ·rw [e1 e.2.2.1]; exact nx
 ·have no:∀ {X:Prop},(∃ d o,formR s n1 = some (some (d,o))) → preU s a b = true → X:=fun ⟨d,o,e⟩ hp => by
   rw [h1] at e; injection e with e; exact absurd ⟨⟨d,o,e⟩,hp⟩ hc
  exact ⟨n1,⟨⟨_,h1⟩,fun q p => no q p,fun q p => no q p,fun q p => no q p⟩,fun s' e => no e.1 e.2.1,fun s' e => no e.1 e.2.1⟩
theorem Catch.mono {P:Program} {H:Nat} {PS PS':Value → Prop} {ns:List Nat} {out:Value → List (List Value)} (h:Catch P H PS ns out) (hp:∀ v,PS' v → PS v):Catch P H PS' ns out :=
 ⟨h.inv,h.idle,fun F bs v older w hv => h.caught F bs v older w (hp v hv)⟩
theorem ub_one:∀ {bs:List Own} {n:Nat},Bxs bs [n] → ∃ g t cs,bs = [.box g (t + 1) cs] ∧ cs.length = n
 | [],_,h => h.elim
 | [o],n,h => by
  cases o with
  | row => exact h.1.elim
  | box g t cs =>
   cases t with
   | zero => exact absurd rfl (isBx_ne h.1)
   | succ t => exact ⟨g,t,cs,rfl,h.1⟩
 | _ :: _ :: _,_,h => h.2.elim
def outI (v:Value):List (List Value):=match v with
 | .iface _ (.agg ⟨[.int _ n]⟩) => [[.int .i64 n]]
 | _ => []
theorem idle93 (bs:List Own) (w:World) (hb:Bxs bs [1]):CallsD P 93 (bs.map ptrO).toArray .returning w fun e u' w' => e = .returned (.tuple #[]) ∧ u' = .returning ∧ w' = w:=by
 have hn:Try.f93.ntmps = 12:=by kernel_rfl
 have hr:Try.f93.results = #[]:=by kernel_rfl
 obtain ⟨g,t,cs,rfl,_⟩:=ub_one hb
 refine callsD_of_wpS Try.func93 rfl fun c₀ cs hu => ?_
 apply wpS_seq
 apply wpS_region
 simp [wpOpsS,go_sem,recoverD,hu,hn,Exit.thenS,ptrO]
 refine wpS_of_wp (wp_block (wp_seq (wp_region ?_)))
 have u20:P.underlying 20 = some (.interface #[]):=by kernel_rfl
 have he:∀ w:World,(Op.equal 20 .nilIface .nilIface).run P w = .ok true w:=fun w => eqv_ii u20
 simp [wpOps,go_sem,Exit.then,he,Exit.inBlock]
 refine .inl ?_
 apply wp_cond_true
 ·simp [Act.eval,Array.replicate]
 apply wp_region
 cases c₀
 simp_all [wpOps,go_sem,bodyPostS,results,Exit.inBlock]
theorem catch93:Catch P 93 (fun v => ∃ e,v = failV e) [1] outI:=by
 refine catch_facts Try.func93 facts93 rfl idle93 ?_
 rintro F bs v ⟨n,rfl⟩ hb
 obtain ⟨g,t,cs,rfl,h1⟩:=ub_one hb
 match cs,h1 with
 | [a],_ =>
  intro g2
  exact rfl
def RG (n:Nat) (s:List Ty) (a b:Ty):List TO → C → Prop:=fun Mo v => (∃ s',U1G n s a b s' ∧ Mo = LU s' ∧ v = IC 0) ∨ (∃ e,U1B n s a b e ∧ v = IC e ∧ ∃ i j,Mo = [.box 89 (List.replicate i .any),.box 93 (List.replicate j .any),.row 32 3 []])
theorem U1B.three {n:Nat} {s:List Ty} {a b:Ty} {e:Int} (h:U1B n s a b e):e = 1 ∨ e = 2 ∨ e = 8:=by
 rcases h with ⟨_,h⟩ | ⟨_,⟨_,h⟩ | ⟨_,⟨_,h⟩ | ⟨_,_,h,_⟩⟩⟩ <;> omega
section
variable {L:TL} {ρ:TEnv}
theorem callRU (ks:List Nat) {PS:Pan} {n f:Nat} {s:List Ty} {a b:Ty} {args:List C} {K:TL → TEnv → C → Prop} {Lin:List TO} (h:CallsTX P f (args.map fun c => c.canA.ren (toIn ks 1000)) (LU s) (RU n s a b) (PU n s a b)) (hs:L.sub ks = some Lin)
  (hc:(T.nodup? ks && T.koOk L ks ks && boxesAt Lin ks ks && hbOk L ks PS.hb) = true) (hl:Lin.map (TO.mapC (C.ren (toIn ks 1000))) = LU s) (hn:ks.length = 3) (hp:∀ v,PU n s a b v → PS.ps v)
  (k:∀ s',U1G n s a b s' → K (((L.dels ks).kills (rowsOf L ks)).puts ks ((LU s').map (TO.mapC (C.ren (fromIn ks))))) (killsE (rowsOf L ks) ρ) (.tup [])):CallXT P PS f args L ρ K:=by
 simp only [Bool.and_eq_true] at hc
 obtain ⟨⟨⟨c1,c2⟩,c3⟩,c4⟩:=hc
 refine ⟨[],ks,ks,L,Lin,_,_,.inl rfl,hs,c1,c1,c2,c3,c4,by rw [hl]; exact h,hp,?_⟩
 rintro v Mo ⟨s',e1,rfl,rfl⟩ hw hwo
 exact ⟨hn,k s' e1⟩
theorem callRG (ks:List Nat) {n f:Nat} {s:List Ty} {a b:Ty} {args:List C} {K:TL → TEnv → C → Prop} {Lin:List TO} (h:CallsT P f (args.map fun c => c.canA.ren (toIn ks 1000)) (LU s) (RG n s a b)) (hs:L.sub ks = some Lin)
  (hc:(T.nodup? ks && T.koOk L ks ks && boxesAt Lin ks ks) = true) (hl:Lin.map (TO.mapC (C.ren (toIn ks 1000))) = LU s) (hn:ks.length = 3)
  (k1:∀ s',U1G n s a b s' → K (((L.dels ks).kills (rowsOf L ks)).puts ks ((LU s').map (TO.mapC (C.ren (fromIn ks))))) (killsE (rowsOf L ks) ρ) (IC 0))
  (k2:∀ e,U1B n s a b e → ∀ Lx,Lx.length = 3 → K (((L.dels ks).kills (rowsOf L ks)).puts ks Lx) (killsE (rowsOf L ks) ρ) (IC e)):CallT P f args L ρ K:=by
 simp only [Bool.and_eq_true] at hc
 obtain ⟨⟨c1,c2⟩,c3⟩:=hc
 refine .mk ⟨[],ks,ks,L,Lin,_,.inl rfl,hs,c1,c1,c2,c3,by rw [hl]; exact h,?_⟩
 rintro v Mo (⟨s',e1,rfl,rfl⟩ | ⟨e,e1,rfl,i,j,rfl⟩) hw hwo
 ·exact ⟨hn,k1 s' e1⟩
 ·exact ⟨hn,k2 e e1 _ rfl⟩
end
theorem wf8 {F:Frz} {L:Loc} {m:Int} (h0:0 ≤ m) (h1:m < 64):Rel F L (IC m) (.int .i64 m):=by
 rw [Rel]
 exact ⟨rfl,by rw [wf_iff]; simp only [IntKind.min,IntKind.max,IntKind.signed,IntKind.bits,if_true]; omega⟩
theorem t56u (n:Nat) (s:List Ty) (a b:Ty) (h:Un62 s a b (RU n s a b) (PU n s a b)):CallsT P 56 [.fn 62 [] [.own 1000 0,.pt (tyB' a) 0,.pt (tyB' b) 0]] (LU s) (RG n s a b):=by
 refine callsT_facts_catch (PS:=PU n s a b) (ns:=[1]) (out:=outI) Try.func56 facts56 (Catch.mono catch93 fun v ⟨e,_,h⟩ => ⟨e,h⟩) (fun v ⟨e,_,h⟩ => by subst h; rfl) rfl rfl ?_ fun hw ho => ?_
 ·rintro v ⟨e,hB,rfl⟩
  refine ⟨IC e,.int .i64 e,?_,?_,?_⟩
  ·intro L ρ h
   obtain ⟨a1,g1,t1,a2⟩:=h 0 2 _ rfl rfl
   simp only [retV,a1,a2]
   rfl
  ·intro F L
   have:=hB.three
   exact wf8 (by omega) (by omega)
  ·rintro Mo ⟨i,Mo1,rfl,j,Mo2,rfl,Mo3,rfl,rfl⟩
   exact .inr ⟨e,hB,rfl,i,j,rfl⟩
 refine ⟨rfl,?_⟩
 refine callRU [1000,1001,1002] h rfl rfl rfl rfl (fun v q => q) fun s' hs' => ?_
 exact retR [1000,1001,1002] rfl rfl rfl rfl (.inl ⟨s',hs',rfl,rfl⟩)
def UR (n:Nat) (s:List Ty) (a b:Ty) (r:List Ty) (e:Int):Prop:=(∃ s',U1G n s a b s' ∧ canonF s' n = some r ∧ e = 0) ∨ (U1B n s a b e ∧ r = [])
def RN (n:Nat) (s:List Ty) (a b:Ty):List TO → C → Prop:=fun Mo v => Mo = [] ∧ ∃ r e,UR n s a b r e ∧ v = .tup [.sl (r.map tyC),IC e]
end Go.Fr.Try
