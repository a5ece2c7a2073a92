/- Part of the proofs of the statements of this seat. -/
import Derived.Test.YtnlegbokpofcaaaGreatDoorFW1
set_option maxRecDepth 10000
set_option linter.unusedVariables false
set_option linter.unusedSimpArgs false
namespace Go.Fr.T
open Go Go.RowKit Go.Fr
def hO (Li:List Own) (R:List TO->C->Prop):aD->List Own->Value->Prop:=fun F Lo v =>
 ∃Mo c,Mo.length=Lo.length/\dm F (inp Lo) (jn Mo)/\Rel F (inp Lo) c v/\(∀(i:Nat) g t cs,Li[i]?=some (.box g t cs)->∃cs',Lo[i]?=some (.box g t cs'))/\R Mo c
structure CallsT (P:Program) (f:Nat) (args:List C) (Lin:List TO) (R:List TO->C->Prop):Prop where
 out:∀(F:aD) (Li:List Own) (vs:List Value),Li.length=Lin.length->dm F (inp Li) (jn Lin)->aF F (inp Li) args vs->CallsA P f vs.toArray F Li (hO Li R)
structure CallsTX (P:Program) (f:Nat) (args:List C) (Lin:List TO) (R:List TO->C->Prop) (Pp:Value->Prop):Prop where
 out:∀(F:aD) (Li:List Own) (vs:List Value),Li.length=Lin.length->dm F (inp Li) (jn Lin)->aF F (inp Li) args vs->uq P f vs.toArray F Li (hO Li R) Pp
theorem CallsT.toX {P:Program}{f:Nat}{args:List C}{Lin:List TO}{R:List TO->C->Prop}{Pp:Value->Prop}(h:CallsT P f args Lin R):CallsTX P f args Lin R Pp:=⟨fun F Li vs c b a=>(h.out F Li vs c b a).toX⟩
def aU:List TO->List Nat->List Nat->Bool
 | .box _ _::l,k::ks,a::ko=>match Nat.beq k a with | true=>aU l ks ko | false=>false
 | .box _ _::_,_,_=>false
 | .map _::l,k::ks,a::ko=>match Nat.beq k a with | true=>aU l ks ko | false=>false
 | .map _::_,_,_=>false
 | .win _ _ _ _::l,k::ks,a::ko=>match Nat.beq k a with | true=>aU l ks ko | false=>false
 | .win _ _ _ _::_,_,_=>false
 | .row _ _ _::l,_::ks,_::ko=>aU l ks ko
 | .row _ _ _::l,_::ks,[]=>aU l ks []
 | .row _ _ _::_,[],_=>false
 | [],_,_=>true
def mq (L:TL) (ks:List Nat):List Nat->Bool
 | []=>true
 | k::ko=>match ga ks k,L.get k with
  | true,_=>mq L ks ko
  | false,none=>mq L ks ko
  | false,some _=>false
def covers:TL->TL->Bool
 | [],_=>true
 | (k,_)::l,L1=>match L1.get k with | some _=>covers l L1 | none=>false
def mX:TL->TL->Bool
 | [],_=>true
 | (k,.box _ _)::l,L1=>match L1.get k with | some (.box _ _)=>mX l L1 | _=>false
 | (k,.map _)::l,L1=>match L1.get k with | some (.map _)=>mX l L1 | _=>false
 | (k,.win _ _ _ _)::l,L1=>match L1.get k with | some (.win _ _ _ _)=>mX l L1 | _=>false
 | (_,.row _ _ _)::l,L1=>mX l L1
def TL.kills (ks:List Nat) (L:TL):TL:=match ks with | []=>L | _=>L.ZC (C.kills ks)
def fF (ks:List Nat) (ρ:aX):aX:=match ks with | []=>ρ | _=>fun j=>(ρ j).kills ks
def rowsOf (L:TL):List Nat->List Nat
 | []=>[]
 | k::ks=>match L.get k with
  | some (.row _ _ _)=>k::rowsOf L ks
  | _=>rowsOf L ks
def Q0 (Li Lo:List Own):Prop:=Lo.length=Li.length/\∀(i:Nat) o,Li[i]?=some o->∃o',Lo[i]?=some o'/\Own.like o o'
structure AE (P:Program) (f:Nat) (args:List C) (Lin:List TO) (R:List TO->C->Prop):Prop where
 out:∀(F:aD) (Li:List Own) (vs:List Value),Li.length=Lin.length->dm F (inp Li) (jn Lin)->aF F (inp Li) args vs->CallsA P f vs.toArray F Li (fun F' Lo v=>hO Li R F' Lo v/\Q0 Li Lo)
inductive qB (P:Program) (f:Nat) (args:List C) (L:TL) (ρ:aX) (K:TL->aX->C->Prop):Prop
 | mk (out:∃(fz ks ko:List Nat),wY fz L ρ args fun L ρ args =>
  ∃(L1:TL) (Lin:List TO) (R:List TO->C->Prop),(L1=L\/(gives L L1 L1/\covers L L1=true))/\L1.sub ks=some Lin/\bJ ks=true/\bJ ko=true/\mq L1 ks ko=true/\aU Lin ks ko=true /\
   CallsT P f (args.map fun c=>c.ZG.ren (cD ks 1000)) (Lin.map (TO.ZC (C.ren (cD ks 1000)))) R /\
   ∀v Mo,R Mo v->Wf v->(∀o∈Mo,o.Wf)->ko.length=Mo.length /\
    K (((L1.ZB ks).kills (rowsOf L1 ks)).puts ko (Mo.map (TO.ZC (C.ren (aZ ko))))) (fF (rowsOf L1 ks) ρ) (v.ren (aZ ko)).slt)
 | inpl (ks:List Nat) (Lin:List TO) (R:List TO->C->Prop) (hs:L.sub ks=some Lin) (hn:bJ ks=true) (h:AE P f (args.map fun c=>c.ZG.ren (cD ks 1000)) (Lin.map (TO.ZC (C.ren (cD ks 1000)))) R)
   (k:∀v Mo,R Mo v->Wf v->(∀o∈Mo,o.Wf)->ks.length=Mo.length/\K ((L.ZB ks).puts ks (Mo.map (TO.ZC (C.ren (aZ ks))))) ρ (v.ren (aZ ks)).slt)
structure qd where
 ps:Value->Prop
 hb:List (Nat×Nat):=[]
 st:Option (TL->Value->Prop):=none
def lT (L:TL) (ks:List Nat):List (Nat×Nat)->Bool
 | []=>true
 | (k,n)::l=>match ga ks k,L.get k with
  | false,some (.box _ cs)=>match dD cs n with | true=>lT L ks l | false=>false
  | _,_=>false
structure lu (P:Program) (f:Nat) (args:List C) (Lin:List TO) (R:List TO->C->Prop) (Pp:Value->Prop):Prop where
 out:∀(F:aD) (Li:List Own) (vs:List Value),Li.length=Lin.length->dm F (inp Li) (jn Lin)->aF F (inp Li) args vs->uq P f vs.toArray F Li (fun F' Lo v=>hO Li R F' Lo v/\Q0 Li Lo) Pp
inductive pq (P:Program) (PS:qd) (f:Nat) (args:List C) (L:TL) (ρ:aX) (K:TL->aX->C->Prop):Prop
 | mk (out:∃(fz ks ko:List Nat),wY fz L ρ args fun L ρ args =>
  ∃(L1:TL) (Lin:List TO) (R:List TO->C->Prop) (Pp:Value->Prop),(L1=L\/(gives L L1 L1/\covers L L1=true))/\L1.sub ks=some Lin/\bJ ks=true/\bJ ko=true/\mq L1 ks ko=true/\aU Lin ks ko=true/\lT L1 ks PS.hb=true /\
   CallsTX P f (args.map fun c=>c.ZG.ren (cD ks 1000)) (Lin.map (TO.ZC (C.ren (cD ks 1000)))) R Pp/\(∀v,Pp v->PS.ps v) /\
   ∀v Mo,R Mo v->Wf v->(∀o∈Mo,o.Wf)->ko.length=Mo.length /\
    K (((L1.ZB ks).kills (rowsOf L1 ks)).puts ko (Mo.map (TO.ZC (C.ren (aZ ko))))) (fF (rowsOf L1 ks) ρ) (v.ren (aZ ko)).slt)
 | inpl (ks:List Nat) (Lin:List TO) (R:List TO->C->Prop) (Pp:Value->Prop) (hs:L.sub ks=some Lin) (hn:bJ ks=true) (hh:lT L ks PS.hb=true) (h:lu P f (args.map fun c=>c.ZG.ren (cD ks 1000)) (Lin.map (TO.ZC (C.ren (cD ks 1000)))) R Pp) (hp:∀v,Pp v->PS.ps v)
   (k:∀v Mo,R Mo v->Wf v->(∀o∈Mo,o.Wf)->ks.length=Mo.length/\K ((L.ZB ks).puts ks (Mo.map (TO.ZC (C.ren (aZ ks))))) ρ (v.ren (aZ ks)).slt)
structure CallsTS (P:Program) (f:Nat) (args:List C) (Lin:List TO) (R:List TO->C->Prop) (Pp:List TO->Value->Prop):Prop where
 out:∀(F:aD) (Li:List Own) (vs:List Value),Li.length=Lin.length->dm F (inp Li) (jn Lin)->aF F (inp Li) args vs->vS P f vs.toArray F Li (hO Li R) (fun F' Lo v=>∃Mo,Mo.length=Lo.length/\dm F' (inp Lo) (jn Mo)/\Pp Mo v)
structure AF (P:Program) (ps:Value->Prop) (hb:List (Nat×Nat)) (st:TL->Value->Prop) (f:Nat) (args:List C) (L:TL) (ρ:aX) (K:TL->aX->C->Prop):Prop where
 out:∃(ks ko:List Nat) (L1:TL) (Lin:List TO) (R:List TO->C->Prop) (Pp:List TO->Value->Prop),(L1=L\/(gives L L1 L1/\covers L L1=true))/\L1.sub ks=some Lin/\bJ ks=true/\bJ ko=true/\mq L1 ks ko=true/\aU Lin ks ko=true/\lT L1 ks hb=true /\
   CallsTS P f (args.map fun c=>c.ZG.ren (cD ks 1000)) (Lin.map (TO.ZC (C.ren (cD ks 1000)))) R Pp /\
   (∀v Mo,Pp Mo v->(∀o∈Mo,o.Wf)->ks.length=Mo.length->ps v/\st (((L1.ZB ks).kills (rowsOf L1 ks)).puts ks (Mo.map (TO.ZC (C.ren (aZ ks))))) v) /\
   ∀v Mo,R Mo v->Wf v->(∀o∈Mo,o.Wf)->ko.length=Mo.length /\
    K (((L1.ZB ks).kills (rowsOf L1 ks)).puts ko (Mo.map (TO.ZC (C.ren (aZ ko))))) (fF (rowsOf L1 ks) ρ) (v.ren (aZ ko)).slt
def wZ:List C->Option (List Value)
 | []=>some []
 | .int k n::l=>match wZ l with | some vs=>some (.int k n::vs) | none=>none
 | .bool b::l=>match wZ l with | some vs=>some (.bool b::vs) | none=>none
 | .str s::l=>match wZ l with | some vs=>some (.string s::vs) | none=>none
 | _=>none
def Cd:C->Option Value
 | .ifc t (.int k n)=>some (.iface t (.int k n))
 | .ifc t (.bool b)=>some (.iface t (.bool b))
 | .ifc t (.str s)=>some (.iface t (.string s))
 | .ifc t (.agg cs)=>match wZ cs with | some vs=>some (.iface t (.agg vs.toArray)) | none=>none
 | _=>none
structure Q5 (PS:qd) (L:TL) (c:C):Prop where
 out:∃v,Cd c=some v/\lT L [] PS.hb=true/\PS.ps v
structure S5 (ps:Value->Prop) (hb:List (Nat×Nat)) (st:TL->Value->Prop) (L:TL) (c:C):Prop where
 out:∃v,Cd c=some v/\lT L [] hb=true/\ps v/\st L v
inductive DE (P:Program) (f:Nat) (args:List C) (L:TL) (ρ:aX) (K:TL->aX->C->Prop):Prop
 | mk (out:∃(ks ko:List Nat) (Lin:List TO) (R:List TO->C->Prop),L.sub ks=some Lin/\bJ ks=true/\bJ ko=true/\mq L ks ko=true/\aU Lin ks ko=true /\
   CallsT P f (args.map fun c=>c.ZG.ren (cD ks 1000)) (Lin.map (TO.ZC (C.ren (cD ks 1000)))) R /\
   ∀v Mo,R Mo v->Wf v->(∀o∈Mo,o.Wf)->ko.length=Mo.length /\
    K (((L.ZB ks).kills (rowsOf L ks)).puts ko (Mo.map (TO.ZC (C.ren (aZ ko))))) (fF (rowsOf L ks) ρ) (v.ren (aZ ko)).slt)
 | inpl (ks:List Nat) (Lin:List TO) (R:List TO->C->Prop) (hs:L.sub ks=some Lin) (hn:bJ ks=true) (h:AE P f (args.map fun c=>c.ZG.ren (cD ks 1000)) (Lin.map (TO.ZC (C.ren (cD ks 1000)))) R)
   (k:∀v Mo,R Mo v->Wf v->(∀o∈Mo,o.Wf)->ks.length=Mo.length/\K ((L.ZB ks).puts ks (Mo.map (TO.ZC (C.ren (aZ ks))))) ρ (v.ren (aZ ks)).slt)
def w7:List Nat->List Nat->Bool
 | [],_=>true
 | k::ks,a=>match ga a k with | true=>false | false=>w7 ks a
structure nH (P:Program) (PS:qd) (fb:List Nat) (f:Nat) (args:List C) (L:TL) (ρ:aX) (K:TL->aX->C->Prop):Prop where
 out:∃(ks:List Nat) (Lin:List TO) (R:List TO->C->Prop) (Pp:Value->Prop),L.sub ks=some Lin/\bJ ks=true/\w7 ks fb=true/\aU Lin ks ks=true/\lT L ks PS.hb=true /\
   CallsTX P f (args.map fun c=>c.ZG.ren (cD ks 1000)) (Lin.map (TO.ZC (C.ren (cD ks 1000)))) R Pp/\(∀v,Pp v->PS.ps v) /\
   ∀v Mo,R Mo v->Wf v->(∀o∈Mo,o.Wf)->ks.length=Mo.length /\
    K (((L.ZB ks).kills (rowsOf L ks)).puts ks (Mo.map (TO.ZC (C.ren (aZ ks))))) (fF (rowsOf L ks) ρ) (v.ren (aZ ks)).slt
structure vY (P:Program) (ps:Value->Prop) (hb:List (Nat×Nat)) (st:TL->Value->Prop) (fb:List Nat) (f:Nat) (args:List C) (L:TL) (ρ:aX) (K:TL->aX->C->Prop):Prop where
 out:∃(ks:List Nat) (Lin:List TO) (R:List TO->C->Prop) (Pp:List TO->Value->Prop),L.sub ks=some Lin/\bJ ks=true/\w7 ks fb=true/\aU Lin ks ks=true/\lT L ks hb=true /\
   CallsTS P f (args.map fun c=>c.ZG.ren (cD ks 1000)) (Lin.map (TO.ZC (C.ren (cD ks 1000)))) R Pp /\
   (∀v Mo,Pp Mo v->(∀o∈Mo,o.Wf)->ks.length=Mo.length->ps v/\st (TL.puts [] ks (Mo.map (TO.ZC (C.ren (aZ ks))))) v) /\
   ∀v Mo,R Mo v->Wf v->(∀o∈Mo,o.Wf)->ks.length=Mo.length /\
    K (((L.ZB ks).kills (rowsOf L ks)).puts ks (Mo.map (TO.ZC (C.ren (aZ ks))))) (fF (rowsOf L ks) ρ) (v.ren (aZ ks)).slt
def mY (P:Program) (f:Nat):Prop:=∃fn,P.funcs[f]?=some fn/\fn.body.isSome=true/\(fn.name == "runtime.NumGoroutine")=false
structure Q6 (P:Program) (f:Nat) (args:List C) (t sz:Nat) (els:List (List C)) (x:C):Prop where
 out:∀(F:aD) (rv:Value) (xs vs:List Value),di F (inp [.row rv t sz els.length xs]) (.row t sz els) (.row rv t sz els.length xs)->aF F (inp [.row rv t sz els.length xs]) args vs ->
  CallsA P f vs.toArray F [.row rv t sz els.length xs] (fun F' Lo v=>Lo=[.row rv t sz els.length xs]/\Rel F' (inp []) x v)
inductive w8 (P:Program) (f:Nat) (args:List C) (L:TL) (ρ:aX) (d:Option Nat) (K:TL->aX->C->Prop):Prop
 | frz (R:List TO->C->Prop) (h:CallsT P f (args.map fun c=>c.ZG.ren (cD [] 1000)) [] R) (k:∀v Mo,R Mo v->Wf v->Mo=[]/\K L ρ v.slt)
 | own (R:List TO->C->Prop) (k:Nat) (h:CallsT P f (args.map fun c=>c.ZG.ren (cD [] 1000)) [] R) (hd:d=some k) (hk:L.get k=none)
   (kk:∀v Mo,R Mo v->Wf v->(∀o∈Mo,o.Wf)->∃o,Mo=[o]/\K (L.set k (o.ZC (C.ren (aZ [k])))) ρ (v.ren (aZ [k])).slt)
 | row (R:List TO->C->Prop) (kr t sz:Nat) (els:List (List C)) (he:mY P f) (hk:L.get kr=some (.row t sz els)) (h:CallsT P f (args.map fun c=>(c.frz kr els).ZG.ren (cD [] 1000)) [] R)
   (kk:∀v Mo,R Mo v->Wf v->Mo=[]/\K ((L.ZC (C.kill kr)).set kr (.row t sz [])) (fun j=>(ρ j).kill kr) v.slt)
 | lent (kr t sz:Nat) (els:List (List C)) (x:C) (hk:L.get kr=some (.row t sz els)) (h:Q6 P f (args.map fun c=>c.ZG.ren (cD [kr] 1000)) t sz els x) (k:Wf x->K L ρ x.slt)
def O8:Value->C
 | .int k n=>.int k n
 | .bool b=>.bool b
 | .string s=>.str s
 | _=>.any
def isNil:X->Bool
 | .c (.slice none 0 0)=>true
 | _=>false
def DF:X->Bool
 | .c (.pointer none)=>true
 | _=>false
def DG:X->Bool
 | .c .nilFunc=>true
 | _=>false
def uJ:List Bool->List C->List C->Bool->Option Bool
 | [],[],[],c=>some c
 | true::ks,.int k a::l,.int e b::d,c=>match qf k e with | true=>uJ ks l d (c&&decide (a=b)) | false=>none
 | false::ks,.bool a::l,.bool b::d,c=>uJ ks l d (c&&decide (a=b))
 | _,_,_,_=>none
structure Gg (P:Program) (t:TypeId) (nm:String) (K:Nat->Prop):Prop where
 out:∃f,n9 P t nm=some f/\K f
def NG (P:Program) (t:TypeId):Bool:=match P.underlying t with | some (.interface _)=>true | _=>false
def AG (ρ:aX):List (Nat×Nat×X)->List C->(List C->Prop)->Prop
 | [],zs,K=>K zs
 | (off,n,x)::ps,zs,K=>match(cn ρ x).okc,dD (cg (cn ρ x)) n with
  | true,true=>fl (cg (cn ρ x)) fun vs=>fl (fE zs off vs) fun zs=>AG ρ ps zs K
  | _,_=>False
theorem uK {ρ:aX}:∀{ps:List (Nat×Nat×X)}{zs:List C}{K:List C->Prop},AG ρ ps zs K->∃cs,uI ρ zs ps=some cs/\K cs
 | [],zs,K,h=>⟨zs,rfl,h⟩
 | (off,n,x)::ps,zs,K,h=>by
  simp only[AG] at h;simp only[uI];split at h
  ·rename_i b a;rw[eV,eV] at h
   first
   | exact uK h
   | (rw[b,a];exact uK h)
  ·exact h.elim
structure O9 (k:Nat) (K:Nat->Prop):Prop where
 out:∃n,G8 k=some n/\n<=9223372036854775807/\K n
def KF (t:Nat):Bool:=match Nat.beq t 0 with | true=>false | false=>Nat.ble t 1048575
structure Pb (pre:List C) (off:Nat) (cs:List C) (n:Nat) (K:List C->Prop):Prop where
 out:(∃o,off=pre.length+o/\match dD ((cs.drop o).take n) n with | true=>K ((cs.drop o).take n) | false=>False)\/∃vs,(pre.drop off).take n=vs/\dD vs n=true/\K vs
structure S6 (pre:List C) (off:Nat) (cs:List C) (n:Nat) (vs:List C) (K:Nat->Prop) (K':List C->Prop):Prop where
 out:(∃o,off=pre.length+o/\match dD ((cs.drop o).take n) n with | true=>K o | false=>False)\/∃pre',off+n<=pre.length/\dV vs=true/\fE pre off vs=pre'/\K' pre'
structure S7 (offs:List Nat) (j:Nat) (K:Nat->Prop):Prop where
 out:∃o,offs[j]?=some o/\K o
def vn (k:Nat) (ρ:aX):List X->Option (List Nat)
 | []=>some []
 | x::xs=>match(cn ρ x).cel,vn k ρ xs with
  | .own j off,some l=>match Nat.beq j k with | true=>some (off::l) | false=>none
  | _,_=>none
def outT (o:eP) (L:TL) (ρ:aX) (V:C->Prop):Prop :=
 match o with
 | .mov x=>V (cn ρ x)
 | .pick c a b=>match cn ρ c with
  | .bool t=>wD t (V (cn ρ a)) (V (cn ρ b))
  | _=>False
 | .build zs ps=>fl (zs.map rU) fun zs=>AG ρ ps zs fun cs=>V (.agg cs)
 | .load agg n x=>match cn ρ x with
  | .own k off=>match L.get k with
   | some (.box _ cs)=>match dD ((cs.drop off).take n) n with
    | true=>V (AA agg ((cs.drop off).take n))
    | false=>False
   | some (.win _ pre cs _)=>Pb pre off cs n fun vs=>V (AA agg vs)
   | _=>False
  | .pt es off=>match dD ((es.drop off).take n) n with
   | true=>V (AA agg ((es.drop off).take n))
   | false=>False
  | .ownv k off=>match L.get k with
   | some (.box _ cs)=>match dD ((cs.drop off).take n) n with
    | true=>V (AA agg ((cs.drop off).take n))
    | false=>False
   | some (.win _ pre cs _)=>Pb pre off cs n fun vs=>V (AA agg vs)
   | _=>False
  | .elr k j off=>match L.get k with
   | some (.row _ _ els)=>Lr els j off n fun cs=>V (AA agg cs)
   | _=>False
  | .slp k d j=>match agg,Nat.beq n 1 with
   | false,true=>S7 d j fun o=>V (.ownv k o)
   | _,_=>False
  | _=>False
 | .loadR agg n x=>match cn ρ x with
  | .own k off=>match L.get k with
   | some (.box _ cs)=>match dD ((cs.drop off).take n) n with
    | true=>V (AA agg ((cs.drop off).take n))
    | false=>False
   | _=>False
  | .pt es off=>match dD ((es.drop off).take n) n with
   | true=>V (AA agg ((es.drop off).take n))
   | false=>False
  | .ownv k off=>match L.get k with
   | some (.box _ cs)=>match dD ((cs.drop off).take n) n with
    | true=>V (AA agg ((cs.drop off).take n))
    | false=>False
   | _=>False
  | .elr k j off=>match L.get k with
   | some (.row _ _ els)=>Lr els j off n fun cs=>V (AA agg cs)
   | _=>False
  | _=>False
 | .loadD agg n x=>match cn ρ x with
  | .own k off=>match L.get k with
   | some (.box _ cs)=>match dD ((cs.drop off).take n) n with
    | true=>V (AA agg ((cs.drop off).take n))
    | false=>False
   | some (.win _ pre cs _)=>Pb pre off cs n fun vs=>V (AA agg vs)
   | _=>False
  | .pt es off=>match dD ((es.drop off).take n) n with
   | true=>V (AA agg ((es.drop off).take n))
   | false=>False
  | _=>False
 | .gload g=>match vQ g with
  | some k=>V (.opq k)
  | none=>False
 | .loadF agg n x=>match cn ρ x with
  | .pt es off=>match dD ((es.drop off).take n) n with
   | true=>V (AA agg ((es.drop off).take n))
   | false=>False
  | _=>False
 | .loadK key agg n x=>match cn ρ x with
  | .own k off=>match Nat.beq k key with
   | true=>match L.get k with
    | some (.box _ cs)=>match dD ((cs.drop off).take n) n with
     | true=>V (AA agg ((cs.drop off).take n))
     | false=>False
    | _=>False
   | false=>False
  | _=>False
 | .b2sD x=>match(cn ρ x).can with
  | .sl els=>kN els fun bs=>V (.str ⟨bs.toArray⟩)
  | _=>False
 | .b2sR x=>match cn ρ x with
  | .rw k=>match L.get k with
   | some (.row _ sz els)=>match Nat.beq sz 1 with
    | true=>kN els fun bs=>V (.str ⟨bs.toArray⟩)
    | false=>False
   | _=>False
  | _=>False
 | .nilck x=>match cn ρ x with
  | .own k off=>V (.own k off)
  | .pt es off=>V (.pt es off)
  | .ownv k off=>V (.ownv k off)
  | .fn f fi ca=>V (.fn f fi ca)
  | .mval nm c=>match c with
   | .ifc t c=>Nv FN t nm=true/\V (.mval nm (.ifc t c))
   | _=>False
  | .ifo (some nm) t k off=>Nv FN t nm=true/\V (.ifo (some nm) t k off)
  | _=>False
 | .mkmv nm x=>match cn ρ x with
  | .ifc t c=>V (.mval nm (.ifc t c))
  | .ifo none t k off=>V (.ifo (some nm) t k off)
  | _=>False
 | .bin op x y=>match cn ρ x,cn ρ y with
  | .int k a,.int q b=>match Hh op with
   | true=>shI op k a b fun v=>V (O8 v)
   | false=>match qf k q with
    | true=>binI op k a b fun v=>V (O8 v)
    | false=>False
  | .str a,.str b=>binS op a b fun v=>V (O8 v)
  | _,_=>False
 | .eqB neg x y=>match cn ρ x,cn ρ y with
  | .bool a,.bool b=>V (.bool (lm neg (decide (a=b))))
  | _,_=>False
 | .eqP neg x y=>match DF y,cn ρ x with
  | true,.own _ _=>V (.bool (lm neg false))
  | true,.ownv _ _=>V (.bool (lm neg false))
  | true,.pt _ _=>V (.bool (lm neg false))
  | true,.nilp=>V (.bool (lm neg true))
  | _,_=>False
 | .eqS neg x y=>match isNil y,cn ρ x with
  | true,.sl els=>∀b,(els≠[]->b=false)->V (.bool (lm neg b))
  | true,.slx _=>V (.bool (lm neg false))
  | true,.nils=>V (.bool (lm neg true))
  | _,_=>False
 | .eqF neg x y=>match DG y,cn ρ x with
  | true,.nilf=>V (.bool (lm neg true))
  | true,.fn _ _ _=>V (.bool (lm neg false))
  | _,_=>False
 | .eqN neg x=>match cn ρ x with
  | .ifc _ _=>V (.bool (lm neg false))
  | .ifo none _ _ _=>V (.bool (lm neg false))
  | .opq k=>match Dp k with
   | some b=>V (.bool (lm neg b))
   | none=>False
  | _=>False
 | .tas t z x=>match cn ρ x with
  | .ifc p c=>match Nat.beq p t with
   | true=>fc c fun c=>V (.tup [c,.bool true])
   | false=>fc (cv z).cel fun c=>V (.tup [c,.bool false])
  | .ifo none p k off=>match Nat.beq p t with
   | true=>V (.tup [.own k off,.bool true])
   | false=>fc (cv z).cel fun c=>V (.tup [c,.bool false])
  | _=>False
 | .eqA neg ks x y=>match cn ρ x,cn ρ y with
  | .agg cs,.agg ds=>match uJ ks cs ds true with
   | some b=>V (.bool (lm neg b))
   | none=>False
  | _,_=>False
 | .mkif t x=>match cn ρ x with
  | .int k n=>V (.ifc t (.int k n))
  | .bool b=>V (.ifc t (.bool b))
  | .str s=>V (.ifc t (.str s))
  | .pt es off=>V (.ifc t (.pt es off))
  | .own k off=>V (.ifo none t k off)
  | .ownv k off=>V (.ifo none t k off)
  | .agg cs=>match dV cs with
   | true=>fl cs fun cs=>V (.ifc t (.agg cs))
   | false=>False
  | _=>False
 | .un op x=>match op,cn ρ x with
  | .not,.bool b=>V (.bool (!b))
  | .neg,.int k n=>Fit k (0-n) fun m=>V (.int k m)
  | .xor,.int k n=>V (.int k (k.wrap (BitVec.ofInt k.bits (if k.signed then -1 else k.max) ^^^ BitVec.ofInt k.bits n).toNat))
  | _,_=>False
 | .conv k x=>match cn ρ x with
  | .int _ n=>Fit k n fun m=>V (.int k m)
  | _=>False
 | .b2s x=>match(cn ρ x).can with
  | .sl els=>kN els fun bs=>V (.str ⟨bs.toArray⟩)
  | _=>False
 | .mkfn f fi ca=>V (.fn f (eD ρ fi) (eD ρ ca))
 | .slc sz x lo hi=>match(cn ρ x).can with
  | .sl els=>match Gf ρ 0 lo,Gf ρ els.length hi with
   | some l,some h=>Cb l h els sz fun l h=>V (.sl ((els.drop l).take (h-l)))
   | _,_=>False
  | _=>False
 | .slcS x lo hi=>match cn ρ x with
  | .str s=>match Gf ρ 0 lo,Gf ρ s.size hi with
   | some l,some h=>nD l h s.size fun l h=>V (.str (s.extract l h))
   | _,_=>False
  | _=>False
 | .fieldA off x=>match cn ρ x with
  | .own k o=>V (.own k (o+off))
  | .pt es o=>V (.pt es (o+off))
  | .elr k j o=>V (.elr k j (o+off))
  | .ownv k o=>V (.ownv k (o+off))
  | _=>False
 | .fieldV agg off n x=>match cn ρ x with
  | .agg cs=>match dD ((cs.drop off).take n) n with
   | true=>V (AA agg ((cs.drop off).take n))
   | false=>False
  | _=>False
 | .idxA sz x i=>match(cn ρ x).can,cn ρ i with
  | .sl els,.int _ i=>AB els i sz fun es=>V (.pt es 0)
  | .rw k,.int _ i=>match L.get k with
   | some (.row _ e els)=>match Nat.beq sz e with
    | true=>OA i els.length (V (.elr k i.toNat 0))
    | false=>False
   | _=>False
  | .slo k d,.int _ i=>match Nat.beq sz 1 with
   | true=>OA i d.length (V (.slp k d i.toNat))
   | false=>False
  | _,_=>False
 | .idxS x i=>match cn ρ x,cn ρ i with
  | .str s,.int _ i=>OA i s.size (V (.int .u8 ((s.data.toList.getD i.toNat 0).toNat)))
  | _,_=>False
 | .extr x i=>match cn ρ x with
  | .tup vs=>match vs[i]? with
   | some v=>V v.slt
   | none=>False
  | _=>False
 | .len x=>match(cn ρ x).can with
  | .sl els=>V (.int .i64 els.length)
  | .rw k=>match L.get k with
   | some (.row _ _ els)=>V (.int .i64 els.length)
   | _=>False
  | .opq k=>O9 k fun n=>V (.int .i64 n)
  | .slo k d=>V (.int .i64 d.length)
  | _=>False
 | .lenS x=>match cn ρ x with
  | .str s=>V (.int .i64 s.size)
  | _=>False
 | .mlook str ok z x i=>match cn ρ x with
  | .mpr k=>match L.get k with
   | some (.map es)=>O7 str es (cn ρ i) (fun v=>match ok with | true=>V (.tup [v,.bool true]) | false=>V v.slt) (match ok with | true=>V (.tup [cv z,.bool false]) | false=>V (cv z))
   | _=>False
  | _=>False
 | .mlen x=>match cn ρ x with
  | .mpr k=>match L.get k with
   | some (.map es)=>es.length<=maxLen/\V (.int .i64 es.length)
   | _=>False
  | _=>False
 | .mm mx args=>match args.map (cn ρ) with
  | .int k a::l=>match SL mx a l with
   | some m=>(Lit.int k m).wf=true/\V (.int k m)
   | none=>False
  | _=>False
 | _=>False
abbrev TK:=TL->aX->Prop
def storeT (b:Bool) (n:Nat) (a x:X) (d:Option Nat) (L:TL) (ρ:aX) (K:TK):Prop :=
 match(cn ρ x).okc,dD (cg (cn ρ x)) n,dP (cg (cn ρ x)),cn ρ a with
 | true,true,true,.own k off=>match L.get k with
  | some (.box t cs)=>match dD ((cs.drop off).take n) n with
   | true=>fl (fE cs off (cg (cn ρ x))) fun cs=>K (L.set k (.box t cs)) (bE d .und ρ)
   | false=>False
  | some (.win t pre cs post)=>match b with
   | false=>S6 pre off cs n (cg (cn ρ x)) (fun o=>fl (fE cs o (cg (cn ρ x))) fun cs=>K (L.set k (.win t pre cs post)) (bE d .und ρ)) fun pre'=>K (L.set k (.win t pre' cs post)) (bE d .und ρ)
   | true=>False
  | _=>False
 | true,true,true,.elr k j off=>match b,L.get k,dV (cg (cn ρ x)) with
  | false,some (.row t sz els),true=>Nat.ble (off+n) sz=true/\Lr els j off n fun _=>∀es,els[j]?=some es->K (L.set k (.row t sz (els.set j (fE es off ((cg (cn ρ x)).map C.can))))) (bE d .und ρ)
  | _,_,_=>False
 | _,_,_,_=>False
structure Lu (es:List C) (off:Nat) (b:Bool) (K:Prop):Prop where
 same:es[off]?=some (.bool b)
 out:K
def DH (n:Nat) (a x:X) (d:Option Nat) (L:TL) (ρ:aX) (K:TK):Prop :=
 match cn ρ a,cn ρ x with
 | .pt es off,.bool b=>match Nat.beq n 1 with
  | true=>Lu es off b (K L (bE d .und ρ))
  | false=>False
 | _,_=>storeT false n a x d L ρ K
def Lv (e sz bytes:Nat) (s x:C) (d:Option Nat) (L:TL) (ρ:aX) (K:TK):Prop :=
 match s,x.can,d with
 | .rw k,.sl news,_=>match L.get k with
  | some (.row h b els)=>match Nat.beq e h,Nat.beq sz b with
   | true,true=>sL els news sz bytes (fT ((L.ZC (C.kill k)).set k (.row e sz (els++news))) fun L=>K L (bE d (.rw k) fun j=>(ρ j).kill k))
   | _,_=>False
  | _=>False
 | .nils,.sl news,some k=>match L.get k with
  | none=>sL [] news sz bytes (fT (L.set k (.row e sz news)) fun L=>K L (bE d (.rw k) ρ))
  | some _=>False
 | .slx els,.sl news,some k=>match L.get k with
  | none=>0<news.length/\(∀es∈els,es.length=sz)/\sL els news sz bytes (fT (L.set k (.row e sz (els++news))) fun L=>K L (bE d (.rw k) ρ))
  | some _=>False
 | .rw k,.rw f,_=>match L.get k,L.get f with
  | some (.row h b els),some (.row c a news)=>match Nat.beq e h,Nat.beq sz b,Nat.beq sz a with
   | true,true,true=>sL els news sz bytes (fT ((L.ZC (C.kill k)).set k (.row e sz (els++news))) fun L=>K L (bE d (.rw k) fun j=>(ρ j).kill k))
   | _,_,_=>False
  | _,_=>False
 | .nils,.rw f,some k=>match L.get k,L.get f with
  | none,some (.row c a news)=>match Nat.beq sz a with
   | true=>sL [] news sz bytes (K (L.set k (.row e sz news)) (bE d (.rw k) ρ))
   | false=>False
  | _,_=>False
 | _,_,_=>False
structure Q7 (P:Program) (o:eP) (d:Option Nat) (M:TL) (τ:aX) (K:TL->aX->Prop):Prop where
 out:∀(G:Nat->Option (Nat×TypeId)) (F:aD) (L:Loc) (ρ:Env),TS G F L ρ M τ->evalOp P o d F L ρ fun F L ρ=>∃M τ,TS G F L ρ M τ/\K M τ
def bN (P:Program) (o:eP) (d:Option Nat) (L:TL) (ρ:aX) (K:TK):Prop :=
 match o with
 | .box t x=>match d with
  | some k=>match L.get k,(cn ρ x).okc,KF t with
   | none,true,true=>fl (cg (cn ρ x)) fun cs=>K (L.set k (.box t cs)) (bE d (.own k 0) ρ)
   | _,_,_=>False
  | none=>False
 | .boxD t x=>match d with
  | some k=>match L.get k,(cn ρ x).okc,KF t with
   | none,true,true=>fl (cg (cn ρ x)) fun cs=>K (L.set k (.box t cs)) (bE d (.own k 0) ρ)
   | _,_,_=>False
  | none=>False
 | .boxF t x=>match(cn ρ x).okc,dP (cg (cn ρ x)),dV (cg (cn ρ x)) with
  | true,true,true=>fl ((cg (cn ρ x)).map C.can) fun cs=>K L (bE d (.pt cs 0) ρ)
  | _,_,_=>False
 | .alloc t zs=>match d with
  | some k=>match L.get k,KF t with
   | none,true=>fl (zs.map rU) fun cs=>K (L.set k (.box t cs)) (bE d (.own k 0) ρ)
   | _,_=>False
  | none=>False
 | .allocD t zs=>match d with
  | some k=>match L.get k,KF t with
   | none,true=>fl (zs.map rU) fun cs=>K (L.set k (.box t cs)) (bE d (.own k 0) ρ)
   | _,_=>False
  | none=>False
 | .mkF e n sz xs=>match qy ρ sz xs,Nat.beq xs.length n,Nat.ble n 9223372036854775807 with
  | true,true,true=>K L (bE d (.slx (uH ρ xs)) ρ)
  | false,true,true=>match Nat.beq sz 1,xs with
   | true,x::_=>match(cn ρ x).cel with
    | .own k _=>match vn k ρ xs with
     | some q=>K L (bE d (.slo k q) ρ)
     | none=>False
    | _=>False
   | _,_=>False
  | _,_,_=>False
 | .mkFD e n sz xs=>match qy ρ sz xs,Nat.beq xs.length n,Nat.ble n 9223372036854775807 with
  | true,true,true=>K L (bE d (.slx (uH ρ xs)) ρ)
  | false,true,true=>match Nat.beq sz 1,xs with
   | true,x::_=>match(cn ρ x).cel with
    | .own k _=>match vn k ρ xs with
     | some q=>K L (bE d (.slo k q) ρ)
     | none=>False
    | _=>False
   | _,_=>False
  | _,_,_=>False
 | .mkR e n sz xs=>match qy ρ sz xs,Nat.beq xs.length n,Nat.ble n 9223372036854775807,d with
  | true,true,true,some k=>match L.get k with
   | none=>K (L.set k (.row e sz (uH ρ xs))) (bE d (.rw k) ρ)
   | some _=>False
  | _,_,_,_=>False
 | .s2b _ x=>match cn ρ x with
  | .str s=>K L (bE d (.sl (af s.data.toList)) ρ)
  | _=>False
 | .makeS e sz bytes zs l c=>match cn ρ l,cn ρ c,d with
  | .int _ n,.int _ m,some k=>match L.get k,dD (zs.map rU) sz,dP (zs.map rU) with
   | none,true,true=>ur n m bytes fun n=>K (L.set k (.row e sz (List.replicate n ((zs.map rU).map C.can)))) (bE d (.rw k) ρ)
   | _,_,_=>False
  | _,_,_=>False
 | .makeSD e sz n zs=>match d with
  | some k=>match L.get k,dD (zs.map rU) sz,(Nat.beq n 0||dP (zs.map rU)),Nat.ble n 9223372036854775807 with
   | none,true,true,true=>K (L.set k (.row e sz (List.replicate n ((zs.map rU).map C.can)))) (bE d (.rw k) ρ)
   | _,_,_,_=>False
  | none=>False
 | .makeSV e sz bytes zs x=>match cn ρ x,d with
  | .int _ n,some k=>match L.get k,dD (zs.map rU) sz,dP (zs.map rU) with
   | none,true,true=>ur n n bytes fun n=>K (L.set k (.row e sz (List.replicate n ((zs.map rU).map C.can)))) (bE d (.rw k) ρ)
   | _,_,_=>False
  | _,_=>False
 | .storeK key n a x=>match cn ρ a with
  | .own k _=>match Nat.beq k key with
   | true=>storeT true n a x d L ρ K
   | false=>False
  | _=>False
 | .copy e sz a b=>Q7 P (.copy e sz a b) d L ρ K
 | .copyX _ _ _ _=>False
 | .storeX n a x=>storeT false n a x d L ρ K
 | .store n a x=>DH n a x d L ρ K
 | .storeD n a x=>storeT true n a x d L ρ K
 | .call f args=>fl (eD ρ args) fun args=>qB P f args L ρ fun L' ρ' v=>fT L' fun L'=>vH v fun v=>K L' (bE d v ρ')
 | .callV f args=>match cn ρ f with
  | .fn f fi ca=>fl (fi++eD ρ args++ca) fun args=>qB P f args L ρ fun L' ρ' v=>fT L' fun L'=>vH v fun v=>K L' (bE d v ρ')
  | .mval nm c=>match c with
   | .ifc t c=>Gg P t nm fun f=>fl (eD ρ args) fun args=>qB P f (c::args) L ρ fun L' ρ' v=>fT L' fun L'=>vH v fun v=>K L' (bE d v ρ')
   | _=>False
  | .ifo (some nm) t k off=>Gg P t nm fun f=>fl (eD ρ args) fun args=>qB P f (.own k off::args) L ρ fun L' ρ' v=>fT L' fun L'=>vH v fun v=>K L' (bE d v ρ')
  | .mof t nm=>match NG P t,eD ρ args with
   | true,.ifc y c::p=>Gg P y nm fun f=>fl p fun p=>qB P f (c::p) L ρ fun L' ρ' v=>fT L' fun L'=>vH v fun v=>K L' (bE d v ρ')
   | _,_=>False
  | _=>False
 | .callD f args=>fl (eD ρ args) fun args=>w8 P f args L ρ d fun L' ρ' v=>fT L' fun L'=>vH v fun v=>K L' (bE d v ρ')
 | .callVD f args=>match cn ρ f with
  | .fn f fi ca=>fl (fi++eD ρ args++ca) fun args=>w8 P f args L ρ d fun L' ρ' v=>fT L' fun L'=>vH v fun v=>K L' (bE d v ρ')
  | .mval nm c=>match c with
   | .ifc t c=>Gg P t nm fun f=>fl (eD ρ args) fun args=>w8 P f (c::args) L ρ d fun L' ρ' v=>fT L' fun L'=>vH v fun v=>K L' (bE d v ρ')
   | _=>False
  | _=>False
 | .callO f args=>fl (eD ρ args) fun args=>DE P f args L ρ fun L' ρ' v=>fT L' fun L'=>vH v fun v=>K L' (bE d v ρ')
 | .callVO f args=>match cn ρ f with
  | .fn f fi ca=>fl (fi++eD ρ args++ca) fun args=>DE P f args L ρ fun L' ρ' v=>fT L' fun L'=>vH v fun v=>K L' (bE d v ρ')
  | _=>False
 | .mkmap=>match d with
  | some k=>match L.get k with
   | none=>K (L.set k (.map [])) (bE d (.mpr k) ρ)
   | some _=>False
  | none=>False
 | .mupd str x i v=>match cn ρ x with
  | .mpr k=>match L.get k,H8 str (cn ρ i),(cn ρ v).okc,dV (cg (cn ρ v)) with
   | some (.map es),true,true,true=>QZ str es (cn ρ i) ((cn ρ v).cel.ZG) fun es=>K (L.set k (.map es)) (bE d .und ρ)
   | _,_,_,_=>False
  | _=>False
 | .look x i=>match cn ρ x,cn ρ i with
  | .opq k,.int .i64 n=>match vR k n with
   | some (r,b)=>K L (bE d (.tup [.int .i64 r,.bool b]) ρ)
   | none=>False
  | _,_=>False
 | .app e sz bytes _ s x=>Lv e sz bytes (cn ρ s) (cn ρ x) d L ρ K
 | .appX e sz bytes _ s x=>Lv e sz bytes (cn ρ s) (cn ρ x) d L ρ K
 | .appD e sz bytes _ s x=>match cn ρ s,(cn ρ x).can,d with
  | .rw k,.sl news,_=>match L.get k with
   | some (.row u h els)=>match Nat.beq e u,Nat.beq sz h with
    | true,true=>sL els news sz bytes (fT ((L.ZC (C.kill k)).set k (.row e sz (els++news))) fun L=>K L (bE d (.rw k) fun j=>(ρ j).kill k))
    | _,_=>False
   | _=>False
  | .nils,.sl news,some k=>match L.get k with
   | none=>sL [] news sz bytes (fT (L.set k (.row e sz news)) fun L=>K L (bE d (.rw k) ρ))
   | some _=>False
  | .slx els,.sl news,some k=>match L.get k with
   | none=>0<news.length/\(∀es∈els,es.length=sz)/\sL els news sz bytes (fT (L.set k (.row e sz (els++news))) fun L=>K L (bE d (.rw k) ρ))
   | some _=>False
  | _,_,_=>False
 | .appS e s x=>match cn ρ s,cn ρ x,d with
  | .rw k,.str t,_=>match L.get k with
   | some (.row u h els)=>match Nat.beq e u,Nat.beq 1 h with
    | true,true=>sL els (af t.data.toList) 1 1 (fT ((L.ZC (C.kill k)).set k (.row e 1 (els++af t.data.toList))) fun L=>K L (bE d (.rw k) fun j=>(ρ j).kill k))
    | _,_=>False
   | _=>False
  | .nils,.str t,some k=>match L.get k with
   | none=>sL [] (af t.data.toList) 1 1 (K (L.set k (.row e 1 (af t.data.toList))) (bE d (.rw k) ρ))
   | some _=>False
  | _,_,_=>False
 | .appZ e bytes w s x=>match cn ρ s,cn ρ x,d with
  | .rw k,.int _ i,_=>match L.get k with
   | some (.row u h els)=>match Nat.beq e u,Nat.beq 1 h with
    | true,true=>Ia i fun m=>sL els (List.replicate m [.int w 0]) 1 bytes (fT ((L.ZC (C.kill k)).set k (.row e 1 (els++List.replicate m [.int w 0]))) fun L=>K L (bE d (.rw k) fun j=>(ρ j).kill k))
    | _,_=>False
   | _=>False
  | .nils,.int _ i,some k=>match L.get k with
   | none=>Ia i fun m=>sL [] (List.replicate m [.int w 0]) 1 bytes (K (L.set k (.row e 1 (List.replicate m [.int w 0]))) (bE d (.rw k) ρ))
   | some _=>False
  | _,_,_=>False
 | o=>outT o L ρ fun v=>vH v fun v=>K L (bE d v ρ)
def uL (P:Program) (PS:qd) (o:eP) (d:Option Nat) (L:TL) (ρ:aX) (K:TK):Prop :=
 match o with
 | .call f args=>fl (eD ρ args) fun args=>match PS.st with
  | none=>pq P PS f args L ρ fun L' ρ' v=>fT L' fun L'=>vH v fun v=>K L' (bE d v ρ')
  | some s=>AF P PS.ps PS.hb s f args L ρ fun L' ρ' v=>fT L' fun L'=>vH v fun v=>K L' (bE d v ρ')
 | .callV f args=>match cn ρ f with
  | .fn f fi ca=>fl (fi++eD ρ args++ca) fun args=>match PS.st with
   | none=>pq P PS f args L ρ fun L' ρ' v=>fT L' fun L'=>vH v fun v=>K L' (bE d v ρ')
   | some s=>AF P PS.ps PS.hb s f args L ρ fun L' ρ' v=>fT L' fun L'=>vH v fun v=>K L' (bE d v ρ')
  | .ifo (some nm) t k off=>Gg P t nm fun f=>fl (eD ρ args) fun args=>match PS.st with
   | none=>pq P PS f (.own k off::args) L ρ fun L' ρ' v=>fT L' fun L'=>vH v fun v=>K L' (bE d v ρ')
   | some s=>AF P PS.ps PS.hb s f (.own k off::args) L ρ fun L' ρ' v=>fT L' fun L'=>vH v fun v=>K L' (bE d v ρ')
  | _=>False
 | .pan x=>match PS.st with
  | none=>Q5 PS L (cn ρ x)
  | some s=>S5 PS.ps PS.hb s L (cn ρ x)
 | _=>False
def DI (P:Program) (PS:qd) (a:List Nat) (o:eP) (d:Option Nat) (L:TL) (ρ:aX) (K:TK):Prop :=
 match o with
 | .call f args=>fl (eD ρ args) fun args=>match PS.st with
  | some s=>vY P PS.ps PS.hb s a f args L ρ fun L' ρ' v=>fT L' fun L'=>vH v fun v=>K L' (bE d v ρ')
  | none=>nH P PS a f args L ρ fun L' ρ' v=>fT L' fun L'=>vH v fun v=>K L' (bE d v ρ')
 | .callV f args=>match cn ρ f with
  | .fn f fi ca=>fl (fi++eD ρ args++ca) fun args=>match PS.st with
   | some s=>vY P PS.ps PS.hb s a f args L ρ fun L' ρ' v=>fT L' fun L'=>vH v fun v=>K L' (bE d v ρ')
   | none=>nH P PS a f args L ρ fun L' ρ' v=>fT L' fun L'=>vH v fun v=>K L' (bE d v ρ')
  | .ifo (some nm) t k off=>Gg P t nm fun f=>fl (eD ρ args) fun args=>match PS.st with
   | some s=>vY P PS.ps PS.hb s a f (.own k off::args) L ρ fun L' ρ' v=>fT L' fun L'=>vH v fun v=>K L' (bE d v ρ')
   | none=>nH P PS a f (.own k off::args) L ρ fun L' ρ' v=>fT L' fun L'=>vH v fun v=>K L' (bE d v ρ')
  | _=>False
 | _=>False
def zB:List aA->TL->Bool
 | [],_=>true
 | s::l,L=>match tH s with
  | none=>zB l L
  | some k=>match L.get k with | none=>zB l L | some _=>false
def rV (d:Option Nat) (ρ:aX):aX :=
 match d with
 | some k=>fun j=>match Nat.beq j k with | true=>(ρ k).Z0 | false=>ρ j
 | none=>ρ
def Ih (a:Bool) (d:Option Nat) (ρ:aX):aX:=match a with | true=>ρ | false=>rV d ρ
def stepT (P:Program) (PS:qd) (e:Bool) (s:aA) (c:TL->aX->TK->Prop) (L:TL) (ρ:aX) (K:TK):Prop :=
 match s with
 | .op d o none=>bN P o d L ρ fun L' ρ'=>c L' (Ih e d ρ') K
 | .op d o (some (s,a))=>match ρ s with
  | .bool b=>wD b
    (match a with
     | true=>bN P o d L (bE (some s) (.bool true) ρ) fun L' ρ'=>c L' (Ih e d ρ') K
     | false=>c L (bE d .und (bE (some s) (.bool true) ρ)) K)
    (match a with
     | false=>bN P o d L (bE (some s) (.bool false) ρ) fun L' ρ'=>c L' (Ih e d ρ') K
     | true=>c L (bE d .und (bE (some s) (.bool false) ρ)) K)
  | .und=>c L (bE d .und ρ) K
  | _=>False
 | .frz k=>match e,L.get k with
  | false,some (.row _ _ els)=>fT ((L.del k).ZC (C.frz k els)) fun L=>c L (fun j=>(ρ j).frz k els) K
  | false,some (.box _ cs)=>match dP cs,dV cs,Nat.blt k 1000,ga (PS.hb.map (·.1)) k with
   | true,true,true,false=>fT ((L.del k).ZC (C.frb k cs)) fun L=>c L (fun j=>(ρ j).frb k cs) K
   | _,_,_,_=>False
  | _,_=>False
 | .pc d o none=>match e with
  | true=>False
  | false=>uL P PS o d L ρ fun L' ρ'=>c L' (rV d ρ') K
 | .pc d o (some (s,a))=>match e,ρ s with
  | false,.bool b=>wD b
    (match a with
     | true=>uL P PS o d L (bE (some s) (.bool true) ρ) fun L' ρ'=>c L' (rV d ρ') K
     | false=>c L (bE d .und (bE (some s) (.bool true) ρ)) K)
    (match a with
     | false=>uL P PS o d L (bE (some s) (.bool false) ρ) fun L' ρ'=>c L' (rV d ρ') K
     | true=>c L (bE d .und (bE (some s) (.bool false) ρ)) K)
  | false,.und=>c L (bE d .und ρ) K
  | _,_=>False
def zC (P:Program) (PS:qd) (b:List Nat) (s:aA) (a:TL->aX->TK->Prop) (L:TL) (ρ:aX) (K:TK):Prop :=
 match s with
 | .pc d o none=>DI P PS b o d L ρ fun L' ρ'=>a L' ρ' K
 | s=>stepT P PS true s a L ρ K
noncomputable def dQ (P:Program) (PS:qd) (a:Bool) (ss:List aA):TL->aX->TK->Prop :=
 List.rec (motive:=fun _=>TL->aX->TK->Prop) (fun L ρ K=>K L ρ) (fun s _ b L ρ K=>stepT P PS a s b L ρ K) ss
noncomputable def kO (P:Program) (PS:qd) (a:List Nat) (ss:List aA):TL->aX->TK->Prop :=
 List.rec (motive:=fun _=>TL->aX->TK->Prop) (fun L ρ K=>K L ρ) (fun s _ b L ρ K=>zC P PS a s b L ρ K) ss
theorem jV {P:Program}{PS:qd}{b:List Nat}{s:aA}{a:List aA}{L:TL}{ρ:aX}{K:TK}:kO P PS b (s::a) L ρ K=zC P PS b s (kO P PS b a) L ρ K:=rfl
theorem fK {P:Program}{PS:qd}{b:Bool}{s:aA}{a:List aA}{L:TL}{ρ:aX}{K:TK}:dQ P PS b (s::a) L ρ K=stepT P PS b s (dQ P PS b a) L ρ K:=rfl
def sM:List C->C
 | [v]=>v
 | l=>.tup l
def qC (L:TL) (ρ:aX):List RV->(List C->Prop)->Prop
 | [],K=>K []
 | (t,none)::l,K=>qC L ρ l fun vs=>K ((ρ t).cel::vs)
 | (t,some (agg,n))::l,K=>match ρ t with
  | .own k off=>match L.get k with
   | some (.box _ cs)=>match dD ((cs.drop off).take n) n with
    | true=>qC L ρ l fun vs=>K ((AA agg ((cs.drop off).take n)).cel::vs)
    | false=>False
   | _=>False
  | _=>False
structure pW (Lin:List TO) (L:TL) (v:C) (R:List TO->C->Prop):Prop where
 out:∃(fz ko:List Nat),wY fz L (fun _=>.any) [v] fun L _ vs =>
  ∃(L1:TL) (c c1:C) (Mo:List TO),vs=[c]/\((L1=L/\c1=c)\/(gives L L1 L1/\KE L L1 c c1))/\L1.sub ko=some Mo/\bJ ko=true/\aU Lin (List.range' 1000 Lin.length) ko=true /\
   (sK [c1]->R (Mo.map (TO.ZC (C.ren (cD ko 1000)))) (c1.ZQ.ren (cD ko 1000)))
def tN (asg:List Nat) (ρ:aX):aX:=fun j=>match ga asg j with | true=>.any | false=>(ρ j).aae
structure xg (body:TL->aX->TK->Prop) (asg:List Nat) (L:TL) (ρ:aX):Prop where
 out:∃(σ:Type) (x0:σ) (Inv:σ->Prop) (ls:List Nat) (lv:σ->List C) (Lf:σ->TL) (μ:σ->Nat),
  Inv x0/\nS L (Lf x0) ls (lv x0) ρ/\gives L (Lf x0) (Lf x0)/\(∀x,mX L (Lf x)=true)/\(∀x,(lv x).length=ls.length) /\
  ∀x,Inv x->sK (lv x)->(∀k o,(Lf x).get k=some o->o.Wf)->body (Lf x) (qz ls (lv x) (tN asg ρ)) fun L' ρ' =>
   ∃x',Inv x'/\nS L' (Lf x') ls (lv x') ρ'/\gives L' (Lf x') (Lf x')/\μ x'<μ x
def dR:List aA->List Nat
 | []=>[]
 | .frz k::l=>k::dR l
 | .op _ _ _::l=>dR l
 | .pc _ _ _::l=>dR l
def iY:aH->List Nat
 | .reg d=>dR d
 | .regD d=>dR d
 | .regX d=>dR d
 | .seq a b=>iY a++iY b
 | .cond _ a b=>iY a++iY b
 | .block _ c=>iY c
 | .loop _ c=>iY c
 | _=>[]
def sN (L:TL):List Nat->Bool
 | []=>true
 | k::ks=>match L.get k with | some (.box _ _)=>false | some (.map _)=>false | some (.win _ _ _ _)=>false | _=>sN L ks
def Ii:List aA->Bool
 | []=>false
 | .op _ (.copyX _ _ _ _) _::_=>true
 | _::l=>Ii l
structure Pc (P:Program) (PS:qd) (ops:List aA) (M:TL) (τ:aX) (N:TK):Prop where
 st:PS.st=none
 out:∀(G:Nat->Option (Nat×TypeId)) (PX:aD->Loc->Value->Prop),
  (∀(F:aD) (L:Loc) (ρ:Env) (M:TL) (τ:aX) (f:Nat) (args:List C) (vs:List Value) (K:TL->aX->C->Prop),TS G F L ρ M τ->aF F L args vs->nH P PS (Ay ops) f args M τ K ->
   CallXDPt P PX (Ay ops) f vs F L fun F' L' v=>∃M' τ' c,TS G F' L' ρ M' τ'/\aQ F' L' c (.v v)/\K M' τ' c) ->
  ∀(F:aD) (L:Loc) (ρ:Env),Real F L->TS G F L ρ M τ->br P PX (Ay ops) ops F L ρ fun F L ρ=>∃M τ,TS G F L ρ M τ/\N M τ
noncomputable def fG (P:Program) (PS:qd) (c:aH):(Nat->TK)->TK->TK->TK :=
 aH.rec (motive:=fun _=>(Nat->TK)->TK->TK->TK)
  (fun _ _ N L ρ=>N L ρ)
  (fun a _ _ N L ρ=>dQ P PS false a L ρ N)
  (fun a _ _ N L ρ=>dQ P PS true a L ρ N)
  (fun a _ _ N L ρ=>match zB a L with | true=>(match Ii a with | true=>Pc P PS a L ρ N | false=>kO P PS (Ay a) a L ρ N) | false=>False)
  (fun _ _ b d E R N L ρ=>b E R (fun L ρ=>d E R N L ρ) L ρ)
  (fun c _ _ b d E R N L ρ=>match cn ρ c with
   | .bool t=>wD t (b E R N L ρ) (d E R N L ρ)
   | _=>False)
  (fun id _ e E R N L ρ=>e (fun j=>match Nat.beq j id with | true=>N | false=>E j) R N L ρ)
  (fun asg c e E R _ L ρ=>match sN L (iY c) with | true=>xg (fun L ρ K=>e E R K L ρ) asg L ρ | false=>False)
  (fun id E _ _ L ρ=>E id L ρ)
  (fun _ R _ L ρ=>R L ρ) c
section
variable {P:Program}{PS:qd}{E:Nat->TK}{R N:TK}{L:TL}{ρ:aX}
theorem lz:fG P PS .skip E R N L ρ=N L ρ:=rfl
theorem mZ {a:List aA}:fG P PS (.reg a) E R N L ρ=dQ P PS false a L ρ N:=rfl
theorem lA {a:List aA}:fG P PS (.regD a) E R N L ρ=dQ P PS true a L ρ N:=rfl
theorem Cf {a:List aA}:fG P PS (.regX a) E R N L ρ=(match zB a L with | true=>(match Ii a with | true=>Pc P PS a L ρ N | false=>kO P PS (Ay a) a L ρ N) | false=>False):=rfl
theorem m5 {a b:aH}:fG P PS (.seq a b) E R N L ρ=fG P PS a E R (fun L ρ=>fG P PS b E R N L ρ) L ρ:=rfl
theorem lB {c:X}{a b:aH}:fG P PS (.cond c a b) E R N L ρ=(match cn ρ c with
   | .bool t=>wD t (fG P PS a E R N L ρ) (fG P PS b E R N L ρ)
   | _=>False):=rfl
theorem jW {id:Nat}{c:aH}:fG P PS (.block id c) E R N L ρ=fG P PS c (fun j=>match Nat.beq j id with | true=>N | false=>E j) R N L ρ:=rfl
theorem lC {asg:List Nat}{c:aH}:fG P PS (.loop asg c) E R N L ρ=(match sN L (iY c) with | true=>xg (fun L ρ K=>fG P PS c E R K L ρ) asg L ρ | false=>False):=rfl
theorem lD {id:Nat}:fG P PS (.exit id) E R N L ρ=E id L ρ:=rfl
theorem m6:fG P PS .ret E R N L ρ=R L ρ:=rfl
end
def vI:Nat->List C->aX
 | _,[]=>fun _=>.und
 | k,v::l=>bE (some k) v (vI (k+1) l)
theorem wf_wrap (k:IntKind) (n:Int):(Lit.int k (k.wrap n)).wf=true:=by
 cases k<;>simp[Lit.wf,IntKind.wrap,IntKind.min,IntKind.max,IntKind.bits,IntKind.signed]<;>(try split)<;>omega
theorem AH (k:IntKind) (n:Int):(Lit.int k n).wf=true↔k.min<=n/\n<=k.max:=by simp[Lit.wf]
theorem EG (k:IntKind):k.min<=0:=by cases k<;>simp[IntKind.min,IntKind.bits,IntKind.signed]
theorem EH (k:IntKind):127<=k.max:=by cases k<;>simp[IntKind.max,IntKind.bits,IntKind.signed]
def okB:Value->Prop
 | .int k n=>(Lit.int k n).wf=true
 | .bool _=>True
 | .string s=>s.size<=maxLen
 | _=>False
section
variable {P:Program}{G:Nat->Option (Nat×TypeId)}{F:aD}{L:Loc}{ρ:Env}{M:TL}{τ:aX}
theorem xh {v:Value}(h:okB v):aQ F L (O8 v) (.v v):=by
 cases v
 case int k n=>exact⟨.int k n,rfl,by simp only[O8,Rel];exact⟨trivial,h⟩⟩
 case bool b=>exact⟨.bool b,rfl,by simp only[O8,Rel]⟩
 case string b=>exact⟨.string b,rfl,by simp only[O8,Rel];exact⟨trivial,h⟩⟩
 all_goals exact h.elim
theorem Lw {k:IntKind}{a b:Int}(h:(Lit.int k a).wf=true):(Lit.int k (a.tmod b)).wf=true:=by
 rw[AH] at h ⊢;have e:=EG k;have j:=EH k
 by_cases c:0<=a
 ·have:=Int.tmod_nonneg b c;have d:a.tmod b<=a:=by
   have:(a.tmod b).natAbs<=a.natAbs:=by rw[Int.natAbs_tmod];exact Nat.mod_le _ _
   omega
  omega
 ·have d:(a.tmod b).natAbs<=a.natAbs:=by rw[Int.natAbs_tmod];exact Nat.mod_le _ _
  have f:a.tmod b<=0:=by
   have:=Int.tmod_nonneg b (show 0<=-a by omega);rw[Int.neg_tmod] at this;omega
  omega
theorem Lx {k:IntKind}{a:Int}{m:Nat}(h:(Lit.int k a).wf=true):(Lit.int k (a.fdiv (2 ^ m))).wf=true:=by
 rw[AH] at h ⊢;have f:=EG k;have j:=EH k;have b:(0:Int)<2 ^ m:=Int.pow_pos (by omega);rw[Int.fdiv_eq_ediv_of_nonneg _ (by omega)]
 by_cases c:0<=a
 ·have e:=Int.ediv_nonneg c (Int.le_of_lt b);have d:=Int.ediv_le_self (2 ^ m) c;omega
 ·have e:a / 2 ^ m<0:=Int.ediv_neg_of_neg_of_pos (by omega) b;have d:a<=a / 2 ^ m:=by
   have:a*1<=a / 2 ^ m:=by
    apply Int.le_ediv_of_mul_le b;rw[Int.mul_one];have:a*2 ^ m<=a*1:=Int.mul_le_mul_of_nonpos_left (by omega) (by omega);omega
   omega
  omega
theorem Gh {op:BinOp}{k:IntKind}{a b:Int}{K K':Value->Prop}(d:(Lit.int k a).wf=true) (h:binI op k a b K) (c:∀v,okB v->K v->K' v):binI op k a b K':=by
 cases op<;>simp only[binI] at h ⊢<;>first
  | exact h.elim
  | exact⟨c _ (wf_wrap _ _) h.out⟩
  | exact⟨h.ne,⟨c _ (wf_wrap _ _) h.out.out⟩⟩
  | exact⟨h.ne,c _ (Lw d) h.out⟩
  | exact c _ (wf_wrap _ _) h
  | exact c _ trivial h
theorem Ij {op:BinOp}{k:IntKind}{a b:Int}{K K':Value->Prop}(d:(Lit.int k a).wf=true) (h:shI op k a b K) (c:∀v,okB v->K v->K' v):shI op k a b K':=by
 cases op<;>simp only[shI] at h ⊢<;>first
  | exact h.elim
  | exact⟨h.1,⟨c _ (wf_wrap _ _) h.2.out⟩⟩
  | exact⟨h.1,c _ (Lx d) h.2⟩
theorem Gi {op:BinOp}{a b:ByteArray}{K K':Value->Prop}(h:binS op a b K) (c:∀v,okB v->K v->K' v):binS op a b K':=by
 cases op<;>simp only[binS] at h ⊢<;>first
  | exact h.elim
  | exact c _ trivial h
  | exact⟨h.1,c _ (by
    have d:=h.1;simp[IntKind.max,IntKind.bits,IntKind.signed] at d;show(a++b).size<=maxLen;rw[ByteArray.size_append];simp only[maxLen];omega) h.2⟩
theorem AJ (v:Value):Rel F L (rU v) v:=by
 unfold rU;split
 ·split
  ·rename_i h;simp only[Rel];exact⟨trivial,h⟩
  ·simp only[Rel]
 ·simp only[Rel]
 ·split
  ·rename_i h;simp only[Rel];exact⟨trivial,aav h⟩
  ·simp only[Rel]
 ·simp only[Rel]
 ·simp only[Rel]
 ·simp only[Rel]
 ·simp only[Rel];exact Ag
 ·simp only[Rel]
 ·simp only[Rel]
theorem lF:∀vs:List Value,aF F L (vs.map rU) vs
 | []=>by simp only[abb,aF]
 | v::vs=>by simp only[aao,aF];exact⟨v,vs,rfl,AJ v,lF vs⟩
theorem Q8 (v:Value):aQ F L (rU v) (.v v):=by
 have h:=AJ (F:=F) (L:=L) v
 revert h
 unfold rU;split
 ·split
  ·exact fun h=>⟨_,rfl,h⟩
  ·exact fun h=>trivial
 ·exact fun h=>⟨_,rfl,h⟩
 ·split
  ·exact fun h=>⟨_,rfl,h⟩
  ·exact fun h=>trivial
 ·exact fun h=>⟨_,rfl,h⟩
 ·exact fun h=>⟨_,rfl,h⟩
 ·exact fun h=>⟨_,rfl,h⟩
 ·exact fun h=>⟨_,rfl,h⟩
 ·exact fun h=>⟨_,rfl,h⟩
 ·exact fun h=>trivial
theorem Pd (v:Value):aQ F L (cv v) (.v v):=by
 unfold cv;split
 ·rename_i cs;exact⟨_,rfl,by simp only[Rel];exact⟨cs.toList,by simp,lF _⟩⟩
 ·exact Q8 v
theorem dJ (h:∀j,aQ F L (τ j) (ρ j)) (x:X):aQ F L (cn τ x) (ev ρ x):=by
 cases x with
 | t n=>exact h n
 | c v=>exact Pd v
 | fn f=>exact⟨_,rfl,by simp only[cn,Rel];exact⟨[],[],by simp,by simp only[aF],by simp only[aF]⟩⟩
 | mt nm n =>
  have a:=h n;simp only[cn,ev,WY];split
  ·rename_i t c e;rw[e] at a;simp only[aQ] at a ⊢;obtain⟨v,b,d⟩:=a;rw[b];refine⟨_,rfl,?_⟩;simp only[Rel] at d ⊢;exact⟨v,rfl,d⟩
  ·rename_i t k off e;rw[e] at a;simp only[aQ,Rel] at a ⊢;obtain⟨v,b,g,m,cs,l,rfl⟩:=a;rw[b];exact⟨_,rfl,g,m,cs,l,rfl⟩
  ·simp only[aQ]
theorem eX {x:X}{k:IntKind}{n:Int}(h:∀j,aQ F L (τ j) (ρ j)) (e:cn τ x=.int k n):ev ρ x=.v (.int k n)/\(Lit.int k n).wf=true:=by
 have:=dJ h x;rw[e] at this;simp only[aQ,Rel] at this;obtain⟨v,b,rfl,a⟩:=this;exact⟨b,a⟩
theorem iO {x:X}{b:Bool}(h:∀j,aQ F L (τ j) (ρ j)) (e:cn τ x=.bool b):ev ρ x=.v (.bool b):=by
 have:=dJ h x;rw[e] at this;simp only[aQ,Rel] at this;obtain⟨v,a,rfl⟩:=this;exact a
theorem jY {x:X}{s:ByteArray}(h:∀j,aQ F L (τ j) (ρ j)) (e:cn τ x=.str s):ev ρ x=.v (.string s)/\s.size<=maxLen:=by
 have:=dJ h x;rw[e] at this;simp only[aQ,Rel] at this;obtain⟨v,b,rfl,a⟩:=this;exact⟨b,a⟩
theorem Pe {x:X}{els:List (List C)}(h:∀j,aQ F L (τ j) (ρ j)) (e:cn τ x=.sl els) :
  ∃a c sz,ev ρ x=.v (.slice a els.length c)/\els.length<=c/\els.length<=maxLen/\(a=none->els=[]/\c=0)/\gF F a sz 0 els:=by
 have:=dJ h x;rw[e] at this;simp only[aQ,Rel] at this;obtain⟨v,l,a,c,rfl,f,d,k,sz,b⟩:=this;exact⟨a,c,sz,l,f,d,k,b⟩
theorem oF {x:X}(h:∀j,aQ F L (τ j) (ρ j)) (e:cn τ x=.nils):ev ρ x=.v (.slice none 0 0):=by
 have:=dJ h x;rw[e] at this;simp only[aQ,Rel] at this;obtain⟨v,a,rfl⟩:=this;exact a
theorem sO {x:X}{k:Nat}(h:∀j,aQ F L (τ j) (ρ j)) (e:cn τ x=.rw k):∃a c t sz n xs,ev ρ x=.v (.slice a n c)/\L.get k=some (.row (.slice a n c) t sz n xs):=by
 have:=dJ h x;rw[e] at this;simp only[aQ,Rel] at this;obtain⟨v,d,a,c,t,sz,n,xs,rfl,b⟩:=this;exact⟨a,c,t,sz,n,xs,d,b⟩
theorem fo {x:X}{k off:Nat}(h:∀j,aQ F L (τ j) (ρ j)) (e:cn τ x=.own k off):ev ρ x=.own k off/\∃g t cs,L.get k=some (.box g t cs):=by
 have:=dJ h x;rw[e] at this;simp only[aQ] at this;exact this
theorem m7 {x:X}{k off:Nat}(h:∀j,aQ F L (τ j) (ρ j)) (e:cn τ x=.ownv k off):∃g t cs,L.get k=some (.box g t cs)/\SM (ev ρ x) (.pointer (some ⟨g,off,none⟩)):=by
 have:=dJ h x;rw[e] at this;simp only[aQ,Rel] at this;obtain⟨v,b,g,t,cs,a,rfl⟩:=this;exact⟨g,t,cs,a,b⟩
theorem sP {x:X}{f:Nat}{fi ca:List C}(h:∀j,aQ F L (τ j) (ρ j)) (e:cn τ x=.fn f fi ca):∃a b,ev ρ x=.v (.func (.func f) a.toArray b.toArray)/\aF F L fi a/\aF F L ca b:=by
 have:=dJ h x;rw[e] at this;simp only[aQ,Rel] at this;obtain⟨v,k,a,b,rfl,d,c⟩:=this;exact⟨a,b,k,d,c⟩
theorem vZ {x:X}{cs:List C}(h:∀j,aQ F L (τ j) (ρ j)) (e:cn τ x=.agg cs):∃vs,ev ρ x=.v (.agg vs.toArray)/\aF F L cs vs:=by
 have:=dJ h x;rw[e] at this;simp only[aQ,Rel] at this;obtain⟨v,b,vs,rfl,a⟩:=this;exact⟨vs,b,a⟩
theorem Ly {x:X}{cs:List C}(h:∀j,aQ F L (τ j) (ρ j)) (e:cn τ x=.tup cs):∃vs,ev ρ x=.v (.tuple vs.toArray)/\aF F L cs vs:=by
 have:=dJ h x;rw[e] at this;simp only[aQ,Rel] at this;obtain⟨v,b,vs,rfl,a⟩:=this;exact⟨vs,b,a⟩
theorem Ik {x:X}(h:∀j,aQ F L (τ j) (ρ j)) (e:cn τ x=.nilp):ev ρ x=.v (.pointer none):=by
 have:=dJ h x;rw[e] at this;simp only[aQ,Rel] at this;obtain⟨v,a,rfl⟩:=this;exact a
theorem Il {x:X}(h:∀j,aQ F L (τ j) (ρ j)) (e:cn τ x=.nilf):ev ρ x=.v .nilFunc:=by
 have:=dJ h x;rw[e] at this;simp only[aQ,Rel] at this;obtain⟨v,a,rfl⟩:=this;exact a
theorem AK {x:X}{t:TypeId}{c:C}(h:∀j,aQ F L (τ j) (ρ j)) (e:cn τ x=.ifc t c):∃u,ev ρ x=.v (.iface t u)/\Rel F [] c u:=by
 have:=dJ h x;rw[e] at this;simp only[aQ,Rel] at this;obtain⟨v,b,u,rfl,a⟩:=this;exact⟨u,b,a⟩
theorem pu {x:X}{m:Option String}{t:TypeId}{k off:Nat}(h:∀j,aQ F L (τ j) (ρ j)) (e:cn τ x=.ifo m t k off):∃g a cs,L.get k=some (.box g a cs)/\ev ρ x=.v (Cc m t (.pointer (some ⟨g,off,none⟩))):=by
 have:=dJ h x;rw[e] at this;simp only[aQ,Rel] at this;obtain⟨v,c,g,a,cs,b,rfl⟩:=this;exact⟨g,a,cs,b,c⟩
theorem AL {x:X}{k:Nat}(h:∀j,aQ F L (τ j) (ρ j)) (e:cn τ x=.opq k):∃v,ev ρ x=.v v/\jK k F v:=by
 have:=dJ h x;rw[e] at this;simp only[aQ,Rel] at this;exact this
theorem xj {x:X}{nm:String}{c:C}(h:∀j,aQ F L (τ j) (ρ j)) (e:cn τ x=.mval nm c):∃u,ev ρ x=.v (.func (.method nm) #[u] #[])/\Rel F [] c u:=by
 have:=dJ h x;rw[e] at this;simp only[aQ,Rel] at this;obtain⟨v,b,u,rfl,a⟩:=this;exact⟨u,b,a⟩
theorem LC {x:X}{t:TypeId}{nm:String}(h:∀j,aQ F L (τ j) (ρ j)) (e:cn τ x=.mof t nm):ev ρ x=.v (.func (.methodOf t nm) #[] #[]):=by
 have:=dJ h x;rw[e] at this;simp only[aQ,Rel] at this;obtain⟨v,a,rfl⟩:=this;exact a
theorem EI {x:X}{k:Nat}{a:List Nat}(h:∀j,aQ F L (τ j) (ρ j)) (e:cn τ x=.slo k a):∃g t cs b,L.get k=some (.box g t cs)/\ev ρ x=.v (.slice (some b) a.length a.length)/\a.length<=maxLen/\bV F (some b) 0 (a.map fun o=>.pointer (some ⟨g,o,none⟩)):=by
 have:=dJ h x;rw[e] at this;simp only[aQ,Rel] at this;obtain⟨v,c,g,t,cs,b,l,rfl,f,d⟩:=this;exact⟨g,t,cs,b,l,c,f,d⟩
theorem LD {x:X}{k j:Nat}{a:List Nat}(h:∀j,aQ F L (τ j) (ρ j)) (e:cn τ x=.slp k a j):∃g t cs b,L.get k=some (.box g t cs)/\ev ρ x=.el (some b) j/\bV F (some b) 0 (a.map fun o=>.pointer (some ⟨g,o,none⟩)):=by
 have:=dJ h x;rw[e] at this;simpa only[aQ] using this
theorem DJ {F:aD}{f:Addr}{vs:List Value}{j:Nat}{v:Value}(h:bV F (some f) 0 vs) (k:vs[j]?=some v):bV F (some f) j [v]:=by
 obtain⟨c,d,t,l,e,hb,b,m⟩:=h;refine⟨c,d,t,l,e,hb,b,fun i u a=>?_⟩;cases i with
 | zero =>
  simp only[aat,yo] at a;subst a;have:=m j v k;simpa using this
 | succ i=>simp at a
theorem py {x:X}{es:List C}{off:Nat}(h:∀j,aQ F L (τ j) (ρ j)) (e:cn τ x=.pt es off) :
  ∃b o j vs,(ev ρ x=.v (.pointer (some ⟨b,o,none⟩))/\j=0\/ev ρ x=.el (some ⟨b,o,none⟩) j)/\Ls F b (o+j) off vs/\dP es=true/\aF F [] es vs:=by
 have:=dJ h x;rw[e] at this;simp only[aQ] at this;exact this
theorem tO {x:X}{k j off:Nat}(h:∀j,aQ F L (τ j) (ρ j)) (e:cn τ x=.elr k j off) :
  ∃a t sz n c xs,ev ρ x=.el (some a) (j*sz+off)/\L.get k=some (.row (.slice (some a) n c) t sz n xs):=by
 have:=dJ h x;rw[e] at this;simp only[aQ] at this;exact this
theorem kP (h:dm F L M) {k:Nat}{t:TypeId}{cs:List C}(e:M.get k=some (.box t cs)):∃g a vs,L.get k=some (.box g a vs)/\aF F L cs vs/\tyOk t g a:=by
 have:=h k;rw[e] at this;cases b:L.get k with
 | none=>rw[b] at this;exact this.elim
 | some o =>
  rw[b] at this;cases o with
  | row=>exact this.elim
  | box g a vs=>obtain⟨d,c⟩:=this;exact⟨g,a,vs,rfl,c,d⟩
theorem sQ (h:dm F L M) {k:Nat}{t:TypeId}{pre cs post:List C}(e:M.get k=some (.win t pre cs post)):∃g a v1 b v3,L.get k=some (.box g a (v1++(b++v3)))/\aF F [] pre v1/\aF F L cs b/\aF F [] post v3/\tyOk t g a:=by
 have:=h k;rw[e] at this;cases c:L.get k with
 | none=>rw[c] at this;exact this.elim
 | some o =>
  rw[c] at this;cases o with
  | row=>exact this.elim
  | box g a vs=>obtain⟨f,v1,b,v3,rfl,j,l,d⟩:=this;exact⟨g,a,v1,b,v3,rfl,j,l,d,f⟩
theorem Cg {v1 a v3:List Value}{o n:Nat}(b:((a.drop o).take n).length=n) (c:o+n<=a.length):((v1++(a++v3)).drop (v1.length+o)).take n=(a.drop o).take n:=by
 rw[List.drop_append,List.drop_eq_nil_of_le (by omega),aaP,show v1.length+o-v1.length=o by omega,List.drop_append,List.take_append_of_le_length (by simp;omega)]
theorem kQ (h:dm F L M) {k:Nat}{t:TypeId}{sz:Nat}{els:List (List C)}(e:M.get k=some (.row t sz els)) :
  ∃v xs,L.get k=some (.row v t sz els.length xs)/\(els.length<=maxLen/\∃a c,v=.slice a els.length c/\(a=none->els.length=0))/\aO F sz els xs:=by
 have:=h k;rw[e] at this;cases b:L.get k with
 | none=>rw[b] at this;exact this.elim
 | some o =>
  rw[b] at this;cases o with
  | box=>exact this.elim
  | row v l d n xs=>obtain⟨rfl,rfl,rfl,f,j⟩:=this;exact⟨v,xs,rfl,f,j⟩
theorem cj (h:dm F L M) {k:Nat}(e:M.get k=none):L.get k=none:=by
 have:=h k;rw[e] at this;cases a:L.get k with
 | none=>rfl
 | some o=>rw[a] at this;exact this.elim
theorem bD:∀{l:List C}{n:Nat},dD l n=true->l.length=n
 | [],0,_=>rfl
 | [],n+1,h=>by simp[dD] at h
 | _::l,0,h=>by simp[dD] at h
 | _::l,n+1,h=>by simp only[dD] at h;simp[bD h]
theorem dw:∀{l:List Value}{n:Nat},l.length=n->fM l n=true
 | [],0,_=>rfl
 | [],n+1,h=>by simp at h
 | _::l,0,h=>by simp at h
 | _::l,n+1,h=>by simp only[fM];exact dw (by simpa using h)
theorem jZ {c:C}{v:Value}(h:Rel F L c v):aQ F L c.slt (.v v):=by
 cases c<;>(try simp only[C.slt])<;>try exact⟨v,rfl,h⟩
 case any=>trivial
 case pt es off =>
  simp only[Rel] at h;obtain⟨b,o,vs,rfl,d,a⟩:=h;exact⟨b,o,0,vs,.inl ⟨rfl,rfl⟩,d,a⟩
 case own=>exact⟨v,.inl rfl,h⟩
 case ownv=>exact h.elim
 case elr=>trivial
 case slp=>trivial
theorem cG {agg:Bool}{cs:List C}{vs:List Value}(h:aF F L cs vs):aQ F L (AA agg cs) (.v (gO agg vs)):=by
 cases agg with
 | true=>exact⟨_,rfl,by simp only[AA,gO,Rel];exact⟨vs,rfl,h⟩⟩
 | false =>
  match cs,vs,h with
  | [],vs,h=>trivial
  | [c],vs,h =>
   simp only[aF] at h;obtain⟨v,a,rfl,b,rfl⟩:=h;exact jZ b
  | _::_::_,vs,h=>trivial
theorem SM.conc {sv:SV}{v:Value}(h:SM sv v):Fr.conc L sv=v:=by
 rcases h with rfl | ⟨b,o,j,rfl,rfl⟩
 ·rfl
 ·simp only[Fr.conc,cm]
theorem LF {c:C}{sv:SV}(h:aQ F L c sv) (q:c.one=true\/(∃k o,c=.ownv k o)\/c=.any\/(∃k j o,c=.elr k j o)\/(∃l,c=.agg l)\/(∃l,c=.tup l)\/c=.und\/(∃k o,c=.slo k o)\/(∃k o j,c=.slp k o j)):Rel F L c.cel (conc L sv):=by
 cases c<;>simp only[C.cel]<;>simp only[aQ] at h
 case own k off =>
  obtain⟨rfl,g,t,cs,h⟩:=h;simp only[Rel,conc,h];exact⟨g,t,cs,rfl,rfl⟩
 case ownv k off =>
  obtain⟨v,f,h⟩:=h;rw[f.conc];exact h
 case pt es off =>
  obtain⟨b,o,j,vs,p,d,e,a⟩:=h;simp only[Rel];rcases p with⟨rfl,rfl⟩ | rfl
  ·exact⟨b,o,vs,rfl,d,e,a⟩
  ·exact⟨b,o+j,vs,by simp only[conc,cm],d,e,a⟩
 case elr =>
  obtain⟨m,t,sz,n,c,xs,rfl,h⟩:=h;simp only[Rel];exact⟨m,t,sz,n,c,xs,rfl,h⟩
 case slp=>simp only[Rel]
 case any=>simp only[Rel]
 all_goals
  obtain⟨v,rfl,h⟩:=h;simpa only[conc] using h
theorem lG {c:C}{sv:SV}(h:aQ F L c sv):Rel F L c.cel (conc L sv):=by
 apply LF h;cases c<;>simp[C.one]
theorem tP (h:∀j,aQ F L (τ j) (ρ j)) (x:X):Rel F L (cn τ x).cel (val L ρ x):=lG (dJ h x)
theorem cZ (h:∀j,aQ F L (τ j) (ρ j)):∀xs:List X,aF F L (eD τ xs) (bq L ρ xs)
 | []=>by simp only[eD,bq,aF]
 | x::xs=>by simp only[eD,bq,aF];exact⟨_,_,rfl,tP h x,cZ h xs⟩
theorem DK {c:C}{sv:SV}(h:aQ F L c sv) (e:c.okc=true):aF F L (cg c) (aJ (conc L sv)):=by
 have a:=lG h;cases c<;>simp only[C.okc,aaq] at e<;>simp only[cg]<;>simp only[C.cel] at a ⊢
 case agg cs =>
  simp only[Rel] at a;obtain⟨vs,b,d⟩:=a;rw[b];simpa only[aJ] using d
 all_goals
  simp only[aF];refine⟨_,[],?_,a,rfl⟩
  revert a
  generalize conc L sv=v;intro a;simp only[Rel] at a
  first
   | (have b:=jK.one a;cases v<;>first | rfl | (exact vv b (by decide)) | (simp[Value.oneCell'] at b))
   | (obtain⟨rfl,_⟩:=a;rfl)
   | (subst a;rfl)
   | (obtain⟨_,rfl,_⟩:=a;rfl)
   | (obtain⟨_,_,rfl,_⟩:=a;rfl)
   | (obtain⟨_,_,_,rfl,_⟩:=a;rfl)
   | (obtain⟨_,_,_,_,_,_,rfl,_⟩:=a;rfl)
   | (obtain⟨_,_,_,_,rfl⟩:=a;rfl)
   | (obtain⟨_,_,_,_,rfl⟩:=a;unfold Cc;split<;>rfl)
theorem dY (h:∀j,aQ F L (τ j) (ρ j)) {x:X}(a:(cn τ x).okc=true):aF F L (cg (cn τ x)) (aJ (val L ρ x)):=DK (dJ h x) a
theorem gG {cs:List C}{vs:List Value}{off:Nat}{ds:List C}{us:List Value}(h:aF F L cs vs) (k:aF F L ds us):aF F L (fE cs off ds) (aP vs off us):=by
 simp only[fE,aP];rw[<-k.len];exact((h.take off).append k).append (h.drop _)
theorem zD (h:∀j,aQ F L (τ j) (ρ j)):∀(ps:List (Nat×Nat×X)) {zs:List C}{vs:List Value}{cs:List C},aF F L zs vs->uI τ zs ps=some cs->∃us,built L ρ vs ps=some us/\aF F L cs us
 | [],zs,vs,cs,a,hb=>by
  simp only[uI,yo] at hb;subst hb;exact⟨vs,rfl,a⟩
 | (off,n,x)::ps,zs,vs,cs,a,hb=>by
  simp only[uI] at hb;split at hb
  case h_2=>cases hb
  rename_i e d;have b:=dY h e;have c:fM (aJ (val L ρ x)) n=true:=dw (by rw[b.len];exact bD d);simp only[built,c];exact zD h ps (gG a b) hb
theorem v9 (h:∀j,aQ F L (τ j) (ρ j)) {d i:Int}{x:Option X}(e:Gf τ d x=some i):jI ρ d x=some i:=by
 cases x with
 | none=>exact e
 | some x =>
  simp only[Gf] at e;split at e
  case h_2=>cases e
  rename_i k j a;injection e with e
  subst e;simp only[jI,(eX h a).1]
theorem Im (h:∀j,aQ F L (τ j) (ρ j)) (mx:Bool):∀(args:List X) {a m:Int},SL mx a (args.map (cn τ))=some m->Ny mx a (args.map (ev ρ))=some m
 | [],a,m,e=>e
 | x::args,a,m,e=>by
  simp only[aao] at e ⊢;cases b:cn τ x<;>rw[b] at e<;>simp only[SL,reduceCtorEq] at e;rw[(eX h b).1];exact Im h mx args e
theorem Io {a:Option Addr}{sz:Nat}{els:List (List C)}{c l h:Nat}(m:gF F a sz 0 els) (y:a=none->els=[]/\c=0) (hl:l<=h) (hh:h<=els.length) (z:els.length<=c) :
  gF F (if c=l then a else a.map (·.add (l*sz))) sz 0 ((els.drop l).take (h-l)):=by
 rw[mW] at m ⊢;intro j es d;rw[aaN] at d;split at d
 case isFalse=>cases d
 rename_i hj;rw[aaL] at d;obtain⟨vs,u,w,x,p⟩:=m _ es d;have s:l+j<els.length:=(aai.1 d).1;rw[vz (by omega)];refine⟨vs,u,?_,x,p⟩;obtain⟨r,k,t,q,e,hb,f,n⟩:=w;subst e;obtain⟨b,o,sp⟩:=r;simp only at f;subst f;refine⟨⟨b,o+l*sz,none⟩,k,t,q,by simp only[aa5,cm],hb,rfl,fun i v hi=>?_⟩;have:=n i v hi;simp only[Nat.zero_add,Nat.add_mul] at this ⊢;rw[show o+l*sz+j*sz+i=o+(l*sz+j*sz)+i by omega];exact this
theorem j4 {b o j off n:Nat}{es:List C}{vs:List Value}(k:Ls F b (o+j) off vs):bV F (some ⟨b,o,none⟩) j ((vs.drop off).take n):=by
 obtain⟨e,c,t,d,l,h,f⟩:=k;refine⟨_,c,t,d,rfl,l,rfl,fun i v a=>?_⟩;rw[aaN] at a;split at a
 case isFalse=>cases a
 rw[aaL] at a;have:=f _ _ a;show c[o+j+i]?=_/\oP d (o+j+i);rw[h,Nat.add_assoc];exact this
theorem eS {L':Loc}{cs:List C}{vs:List Value}(p:dV cs=true) (h:aF F L cs vs):aF F L' cs vs:=by
 have b:∀(c:C) (v:Value),c.ZH=true->Rel F L c v->Rel F L' c v:=by
  intro c v d h;cases c<;>simp only[C.ZH,aaq] at d<;>simp only[Rel] at h ⊢<;>exact h
 have a:∀(cs:List C) (vs:List Value),jx cs=true->aF F L cs vs->aF F L' cs vs:=by
  intro cs vs d h;rw[jU] at h ⊢;exact⟨h.1,fun i c v e m=>b c v (qA.1 d c (aam e)) (h.2 i c v e m)⟩
 rw[jU] at h ⊢;refine⟨h.1,fun i c v e m=>?_⟩;have d:=o9.1 p c (aam e);have l:=h.2 i c v e m;cases c<;>first
  | exact b _ _ d l
  | (simp only[C.pure,C.ZH,aaq] at d;done)
  | (simp only[C.pure] at d
     split at d
     case h_2=>cases d
     rename_i j;simp only[Rel] at l ⊢;obtain⟨k,f,o,n,q⟩:=l;exact⟨k,f,o,a _ _ j n,a _ _ d q⟩)
theorem uM {els:List (List C)}{v:Value}(h:Rel F L (.slx els) v):Rel F L (.sl els) v:=by
 simp only[Rel] at h ⊢;obtain⟨a,d,c,sz,b⟩:=h;exact⟨some a,els.length,d,aaB _,c,fun e=>(by cases e),sz,b⟩
theorem tQ {c:C}{v:Value}(h:Rel F L c v):Rel F L c.can v:=by
 cases c<;>first
  | exact h
  | exact uM h
  | (simp only[Rel] at h
     subst h;simp only[C.can,Rel];exact⟨none,0,by simp,by simp,by simp,fun _=>by simp,0,by simp only[gF]⟩)
theorem j5 {cs:List C}{vs:List Value}(h:aF F L cs vs):aF F L (cs.map C.can) vs:=h.map fun c _ v=>tQ
theorem iP {c:C}{v:Value}(h:Rel F L c v):Rel F L c.ZG v:=by
 cases c<;>first
  | exact h
  | exact tQ (c:=.nils) h
  | exact uM h
  | (simp only[Rel] at h
     obtain⟨vs,b,a⟩:=h;simp only[C.ZG,Rel];exact⟨vs,b,j5 a⟩)
theorem Ip {c:C}{sv:SV}(h:aQ F L c sv):aQ F L c.can sv:=by
 cases c<;>first
  | exact h
  | (obtain⟨v,e,a⟩:=h;exact⟨v,e,uM a⟩)
  | (obtain⟨v,e,a⟩:=h;exact⟨v,e,tQ (c:=.nils) a⟩)
theorem j6 {x:X}{els:List (List C)}(h:∀j,aQ F L (τ j) (ρ j)) (e:(cn τ x).can=.sl els) :
  ∃a c sz,ev ρ x=.v (.slice a els.length c)/\els.length<=c/\els.length<=maxLen/\(a=none->els=[]/\c=0)/\gF F a sz 0 els:=by
 have:=Ip (dJ h x);rw[e] at this;simp only[aQ,Rel] at this;obtain⟨v,l,a,c,rfl,f,d,k,sz,b⟩:=this;exact⟨a,c,sz,l,f,d,k,b⟩
theorem LG {c:C}{k:Nat}(e:c.can=.opq k):c=.opq k:=by cases c<;>simp only[C.can,reduceCtorEq] at e<;>exact e
theorem EJ {c:C}{k:Nat}{a:List Nat}(e:c.can=.slo k a):c=.slo k a:=by cases c<;>simp only[C.can,reduceCtorEq] at e<;>exact e
theorem AO {c:C}{k:Nat}(e:c.can=.rw k):c=.rw k:=by cases c<;>simp only[C.can,reduceCtorEq] at e<;>exact e
theorem AP {x:X}{els:List (List C)}(h:∀j,aQ F L (τ j) (ρ j)) (e:cn τ x=.slx els) :
  ∃a sz,ev ρ x=.v (.slice (some a) els.length els.length)/\els.length<=maxLen/\gF F (some a) sz 0 els:=by
 have:=dJ h x;rw[e] at this;simp only[aQ,Rel] at this;obtain⟨v,d,a,rfl,c,sz,b⟩:=this;exact⟨a,sz,d,c,b⟩
theorem LH {c:C}(h:c.one=true):c.can.one=true:=by cases c<;>first | exact h | rfl
theorem m8 {cs:List C}(h:dP cs=true):dP (cs.map C.can)=true:=by
 rw[iX] at h ⊢;intro c b;obtain⟨d,a,rfl⟩:=aaJ.1 b;exact LH (h d a)
theorem gq {cs:List C}{vs:List Value}(h:aF F L cs vs) (b:dP cs=true):∀u∈vs,u.oneCell'=true:=by
 intro u c;obtain⟨i,hi⟩:=aaE.1 c;have a:i<cs.length:=by rw[<-h.len];exact(aai.1 hi).1
 have d:=h.at (aag a) hi;exact d.one (iX.1 b _ (List.getElem_mem a))
theorem kZ:∀{vs:List Value},(∀u∈vs,u.oneCell'=true)->jA vs=true
 | [],_=>rfl
 | v::vs,h=>by simp only[jA,h v (by simp)];exact kZ fun u a=>h u (by simp[a])
end
section
variable {P:Program}{G:Nat->Option (Nat×TypeId)}{F:aD}{L:Loc}{ρ:Env}{M:TL}{τ:aX}
theorem iQ {k:IntKind}{n:Int}(h:(Lit.int k n).wf=true):aQ F L (.int k n) (.v (.int k n)):=⟨_,rfl,by simp only[Rel];exact⟨trivial,h⟩⟩
theorem cN {b:Bool}:aQ F L (.bool b) (.v (.bool b)):=⟨_,rfl,by simp only[Rel]⟩
theorem tT {s:ByteArray}(h:s.size<=maxLen):aQ F L (.str s) (.v (.string s)):=⟨_,rfl,by simp only[Rel];exact⟨trivial,h⟩⟩
theorem Iq {es:List C}{vs:List Value}{c:Addr}{j:Nat}{a:Array Value}{t:TypeId}{e:Nat×Nat}(hb:F c.block=some (.cells a t e)) (d:c.spot=none)
  (f:∀(i:Nat) v,vs[i]?=some v->a[c.off+j+i]?=some v/\oP e (c.off+j+i)) (k:dP es=true) (h:aF F [] es vs):aQ F L (.pt es 0) (.el (some c) j):=by
 obtain⟨b,o,l⟩:=c;simp only at d;subst d;exact⟨b,o,j,vs,.inr rfl,⟨o+j,a,t,e,hb,rfl,f⟩,k,h⟩
theorem zE:∀{p:List UInt8}{xs:List Value},aO F 1 (af p) xs->xs=p.map fun b=>Value.int .u8 b.toNat
 | [],xs,h=>by simpa[af,aO] using h
 | b::p,xs,h=>by
  simp only[af,aao,aO] at h;obtain⟨vs,c,rfl,j,f,a,d⟩:=h;simp only[aF,Rel] at a;obtain⟨v,e,rfl,⟨rfl,_⟩,rfl⟩:=a;rw[zE (p:=p) d];rfl
theorem vo {a:Option Addr}{sz c:Nat}{bs:List UInt8}(m:gF F a sz 0 (af bs)) (hn:a=none->af bs=[]/\c=0) :
  (bV F a 0 (bs.map fun b=>Value.int .u8 b.toNat))\/bs.length=0:=by
 rw[mW] at m;cases hb:bs with
 | nil=>exact .inr rfl
 | cons x p =>
  refine .inl ?_;have y:=m 0 [jo x] (by simp[af,hb]);obtain⟨us,q,⟨ad,o,t,z,e,f,l,_⟩,_,h⟩:=y;have k:sz=1:=by rw[<-q,h.len];rfl
  subst k;rw[<-hb];refine⟨ad,o,t,z,e,f,l,fun i v hi=>?_⟩;simp only[aaT,Option.map_eq_some_iff] at hi;obtain⟨b,n,rfl⟩:=hi;obtain⟨us,q,⟨ae,s,t',ac,j,d,r,w⟩,_,h⟩:=m i [jo b] (by simp[af,n]);rw[e] at j;injection j with j
  subst j;rw[f] at d;injection d with d
  injection d with q1 q2 q3
  subst q1 q3;simp only[aF,Rel] at h;obtain⟨u,aa,rfl,⟨rfl,_⟩,rfl⟩:=h;have:=w 0 _ (by simp;rfl);simpa using this
theorem EK {els:List (List C)}{a:Option Addr}{c sz:Nat}(f:els.length<=c) (d:els.length<=maxLen) (b:a=none->els=[]/\c=0) (e:gF F a sz 0 els):aQ F L (.sl els) (.v (.slice a els.length c)) :=
 ⟨_,rfl,by simp only[Rel];exact⟨a,c,rfl,f,d,b,sz,e⟩⟩
set_option maxHeartbeats 1000000 in
theorem LI:∀{ks:List Bool}{cs ds:List C}{e b:Bool}{vs us:List Value},uJ ks cs ds e=some b->aF F L cs vs->aF F L ds us->jh ks vs.toArray.toList us.toArray.toList e=some b:=by
 intro ks
 induction ks with
 | nil =>
  intro cs ds e b vs us h a d;cases cs with
  | cons c cs=>simp[uJ] at h
  | nil =>
   cases ds with
   | cons c cs=>simp[uJ] at h
   | nil =>
    simp only[aF] at a d;subst a d;simpa[jh,uJ] using h
 | cons k ks l =>
  intro cs ds e b vs us h a d;cases cs with
  | nil=>cases k<;>simp[uJ] at h
  | cons c cs =>
   cases ds with
   | nil=>cases k<;>cases c<;>simp[uJ] at h
   | cons m ds =>
    cases k<;>cases c<;>try (simp[uJ] at h;done)
    all_goals cases m<;>try (simp[uJ] at h;done)
    all_goals simp only[aF,Rel] at a d
    ·obtain⟨v,f,rfl,rfl,a⟩:=a;obtain⟨u,j,rfl,rfl,d⟩:=d;simp only[uJ] at h;have:=l h a d;simp only[jh];exact this
    ·obtain⟨v,f,rfl,⟨rfl,_⟩,a⟩:=a;obtain⟨u,j,rfl,⟨rfl,_⟩,d⟩:=d;simp only[uJ] at h;split at h
     case h_2=>cases h
     rename_i n;have:=l h a d;simp only[jh,n];exact this
theorem Pf (v:Value):Rel F L (cv v) v:=by
 unfold cv;split
 ·rename_i cs;simp only[Rel];exact⟨cs.toList,by simp,lF _⟩
 ·exact AJ v
theorem AQ {x:X}{k:Nat}(h:∀j,aQ F L (τ j) (ρ j)) (e:cn τ x=.mpr k):∃g cs,ev ρ x=.v (.map (some g))/\L.get k=some (.box g 0 cs):=by
 have:=dJ h x;rw[e] at this;simp only[aQ,Rel] at this;obtain⟨v,b,g,cs,a,rfl⟩:=this;exact⟨g,cs,b,a⟩
theorem DL (h:dm F L M) {k:Nat}{es:List (C×C)}(e:M.get k=some (.map es)):∃g vs,L.get k=some (.box g 0 vs)/\jy F es vs:=by
 have:=h k;rw[e] at this;cases a:L.get k with
 | none=>rw[a] at this;exact this.elim
 | some o =>
  rw[a] at this;cases o with
  | row=>exact this.elim
  | box g c vs=>obtain⟨rfl,b⟩:=this;exact⟨g,vs,rfl,b⟩
theorem jy.isMap {es:List (C×C)}{vs:List Value}(h:jy F es vs):nC vs=true:=by
 cases es with
 | nil=>simp only[jy] at h;subst h;rfl
 | cons p l =>
  obtain⟨k,c⟩:=p;simp only[jy] at h;obtain⟨kv,v,a,rfl,_⟩:=h;rfl
theorem jy.len:∀{es:List (C×C)}{vs:List Value},jy F es vs->vs.length=es.length
 | [],vs,h=>by simp only[jy] at h;subst h;rfl
 | (k,c)::l,vs,h=>by
  simp only[jy] at h;obtain⟨kv,v,a,rfl,_,_,h⟩:=h;simp[jy.len h]
theorem qD {str:Bool}{a b:C}{u v:Value}{r:Bool}{L':Loc}(h:mV str a b=some r) (c:Rel F L a u) (hb:Rel F L' b v):fZ str u v=some r:=by
 unfold mV at h;split at h
 ·simp only[Rel] at c hb;rw[c.1,hb.1];exact h
 ·simp only[Rel] at c hb;rw[c.1,hb.1];exact h
 ·cases h
theorem xk {str:Bool}{key:C}{kv:Value}(d:∀b v r,mV str key b=some r->Rel F [] b v->fZ str kv v=some r):∀{es:List (C×C)}{vs:List Value}{o:Option C}(i:Nat),jy F es vs->zA str key es=some o ->
  match o with | some c=>∃j v,mN str kv vs i=some (some (j,v))/\Rel F [] c v | none=>mN str kv vs i=some none
 | [],vs,o,i,h,e=>by
  simp only[jy] at h;subst h;simp only[zA,yo] at e;subst e;rfl
 | (k,c)::l,vs,o,i,h,e=>by
  simp only[jy] at h;obtain⟨u,v,m,rfl,f,n,p⟩:=h;simp only[zA] at e;split at e
  ·rename_i a;injection e with e
   subst e;exact⟨i,v,by simp only[mN,d _ _ _ a f],n⟩
  ·rename_i a;have:=xk d (i+1) p e;simp only[mN,d _ _ _ a f];exact this
  ·cases e
theorem zF {c:C}{v:Value}{b:Bool}(h:Rel F L c v):aQ F L (.tup [c,.bool b]) (.v (.tuple #[v,.bool b])) :=
 ⟨_,rfl,by simp only[Rel,aF];exact⟨[v,.bool b],rfl,v,_,rfl,h,_,[],rfl,rfl,rfl⟩⟩
theorem EL (h:∀j,aQ F L (τ j) (ρ j)) {str:Bool}{x:X}:∀b v r,mV str (cn τ x) b=some r->Rel F [] b v->fZ str (val L ρ x) v=some r:=by
 intro b v r a hb;refine qD (F:=F) (L:=L) a ?_ hb;have:=tP h x
 revert this
 cases c:cn τ x<;>rw[c] at a<;>cases str<;>simp only[mV,reduceCtorEq] at a<;>simp only[C.cel]<;>exact fun h=>h
theorem S8 {o:eP}{V:C->Prop}(ht:TS G F L ρ M τ) (h:outT o M τ V):aL o F L ρ (fun sv=>∃c,aQ F L c sv/\V c):=by
 have he:=ht.env;cases o<;>simp only[outT] at h<;>simp only[aL]
 case mov x=>exact⟨_,dJ he x,h⟩
 case pick c a b =>
  split at h
  case h_2=>exact h.elim
  rename_i t hc;rw[iO he hc];cases t
  ·exact⟨_,dJ he b,h⟩
  ·exact⟨_,dJ he a,h⟩
 case build zs ps =>
  rw[eV] at h;obtain⟨cs,hc,h⟩:=uK h;obtain⟨us,h1,h2⟩:=zD he ps (lF zs) hc;rw[h1];exact⟨.agg cs,⟨_,rfl,by simp only[Rel];exact⟨us,rfl,h2⟩⟩,h⟩
 case load agg n x =>
  split at h
  ·rename_i k off w;obtain⟨d,_⟩:=fo he w;rw[d];split at h
   case h_3=>exact h.elim
   case h_2 =>
    rename_i t pre cs post hk;obtain⟨g,ty,v1,v2,v3,hL,be,hr,cY,am⟩:=sQ ht.tl hk;rcases h with⟨o,rfl,h⟩ | ⟨us,e,hl,h⟩
    case inr =>
     have p:=((be.lift (L:=L)).drop off).take n;rw[e] at p;have aa:((v1.drop off).take n).length=n:=by rw[p.len];exact bD hl
     have hp:(((v1++(v2++v3)).drop off).take n)=(v1.drop off).take n:=by
      by_cases bi:n=0
      ·subst bi;simp
      have:off+n<=v1.length:=by simp at aa;omega
      rw[List.drop_append_of_le_length (by omega),List.take_append_of_le_length (by simp;omega)]
     simp only[hL];rw[hp,f8 am.2.2 (dw aa)];exact⟨_,cG p,h⟩
    split at h
    case h_2=>exact h.elim
    rename_i hl;have p:=(hr.drop o).take n;have aa:((v2.drop o).take n).length=n:=by rw[p.len];exact bD hl
    simp only[hL]
    by_cases bi:n=0
    ·subst bi;rw[f8 am.2.2 (dw (by simp))];simp only[List.take_zero] at h p ⊢;exact⟨_,cG p,h⟩
    have hn:o+n<=v2.length:=by simp at aa;omega
    have hp:=Cg (v1:=v1) (v3:=v3) aa hn;rw[<-be.len,hp,f8 am.2.2 (dw aa)];exact⟨_,cG p,h⟩
   rename_i t cs hk;obtain⟨g,ty,vs,hL,hr,am⟩:=kP ht.tl hk;split at h
   case h_2=>exact h.elim
   rename_i hl;have p:=(hr.drop off).take n;simp only[hL];rw[f8 am.2.2 (dw (by rw[p.len];exact bD hl))];exact⟨_,cG p,h⟩
  ·rename_i es off w;split at h
   case h_2=>exact h.elim
   rename_i hl;obtain⟨b,o,j,vs,d,hp,ho,hr⟩:=py he w;have p:aF F L ((es.drop off).take n) ((vs.drop off).take n):=((hr.drop off).take n).lift;rcases d with⟨d,rfl⟩ | d
   ·rw[d];exact⟨_,by rw[p.len];exact bD hl,.inl (j4 (es:=es) hp),_,cG p,h⟩
   ·rw[d];exact⟨_,by rw[p.len];exact bD hl,.inl (j4 (es:=es) hp),_,cG p,h⟩
  ·rename_i k off w;split at h
   case h_3=>exact h.elim
   case h_2 =>
    rename_i t pre cs post hk;obtain⟨g',ty',da,d,bm⟩:=m7 he w;obtain⟨g,ty,v1,v2,v3,hL,be,hr,cY,am⟩:=sQ ht.tl hk;rw[hL] at d;injection d with d
    injection d with q1 q2 q3
    subst q1 q2 q3;rcases h with⟨o,rfl,h⟩ | ⟨us,e,hl,h⟩
    case inr =>
     have p:=((be.lift (L:=L)).drop off).take n;rw[e] at p;have aa:((v1.drop off).take n).length=n:=by rw[p.len];exact bD hl
     have az:∀(i:Nat) (u:Value),((v1.drop off).take n)[i]?=some u->(v1++(v2++v3))[off+i]?=some u:=by
      intro i u hu;rw[aaN] at hu;split at hu
      case isFalse=>cases hu
      rw[aaL] at hu;rw[aap (aai.1 hu).1];exact hu
     rcases bm with e2 | ⟨b,q,j,e2,e3⟩
     ·rw[e2];exact⟨_,aa,.inr (.inr (.inr ⟨k,g,ty,_,_,hL,am.2.2,rfl,fun i u hu=>by rw[Nat.add_zero];exact az i u hu⟩)),_,cG p,h⟩
     ·injection e3 with e3
      injection e3 with e3
      injection e3 with q1 q2 q3
      subst q1;rw[e2];exact⟨_,aa,.inr (.inr (.inr ⟨k,g,ty,_,q,hL,am.2.2,rfl,fun i u hu=>by rw[<-q2];exact az i u hu⟩)),_,cG p,h⟩
    split at h
    case h_2=>exact h.elim
    rename_i hl;have p:=(hr.drop o).take n;have aa:((v2.drop o).take n).length=n:=by rw[p.len];exact bD hl
    have az:∀(i:Nat) (u:Value),((v2.drop o).take n)[i]?=some u->(v1++(v2++v3))[pre.length+o+i]?=some u:=by
     intro i u hu;rw[aaN] at hu;split at hu
     case isFalse=>cases hu
     rw[aaL] at hu;have bu:=(aai.1 hu).1;rw[<-be.len,aaw (by omega),show v1.length+o+i-v1.length=o+i by omega,aap bu];exact hu
    rcases bm with e2 | ⟨b,q,j,e2,e3⟩
    ·rw[e2];exact⟨_,aa,.inr (.inr (.inr ⟨k,g,ty,_,_,hL,am.2.2,rfl,fun i u hu=>by rw[Nat.add_zero];exact az i u hu⟩)),_,cG p,h⟩
    ·injection e3 with e3
     injection e3 with e3
     injection e3 with q1 q2 q3
     subst q1;rw[e2];exact⟨_,aa,.inr (.inr (.inr ⟨k,g,ty,_,q,hL,am.2.2,rfl,fun i u hu=>by rw[<-q2];exact az i u hu⟩)),_,cG p,h⟩
   rename_i t cs hk;obtain⟨g',ty',da,d,bm⟩:=m7 he w;obtain⟨g,ty,vs,hL,hr,am⟩:=kP ht.tl hk;rw[hL] at d;injection d with d
   injection d with q1 q2 q3
   subst q1 q2 q3;split at h
   case h_2=>exact h.elim
   rename_i hl;have p:=(hr.drop off).take n;have aa:((vs.drop off).take n).length=n:=by rw[p.len];exact bD hl
   have az:∀(i:Nat) (u:Value),((vs.drop off).take n)[i]?=some u->vs[off+i]?=some u:=by
    intro i u hu;rw[aaN] at hu;split at hu
    case isFalse=>cases hu
    rwa [aaL] at hu
   rcases bm with e2 | ⟨b,o,j,e2,e3⟩
   ·rw[e2];exact⟨_,aa,.inr (.inr (.inr ⟨k,g,ty,vs,off,hL,am.2.2,rfl,fun i u hu=>by rw[Nat.add_zero];exact az i u hu⟩)),_,cG p,h⟩
   ·injection e3 with e3
    injection e3 with e3
    injection e3 with q1 q2 q3
    subst q1 q2;rw[e2];exact⟨_,aa,.inr (.inr (.inr ⟨k,g,ty,vs,o,hL,am.2.2,rfl,fun i u hu=>az i u hu⟩)),_,cG p,h⟩
  ·rename_i k j off w;split at h
   case h_2=>exact h.elim
   rename_i t sz els hk;obtain⟨es,h1,h2,h3⟩:=h;obtain⟨ad,t',aE,m,c,cc,d,e2⟩:=tO he w;obtain⟨v,xs,e3,_,hr⟩:=kQ ht.tl hk;rw[e2] at e3;injection e3 with e3
   injection e3 with q1 q2 q3 q4 q5
   subst q2 q3 q5;obtain⟨vs,k1,k2,k3,k4⟩:=hr.at h1;have p:aF F L ((es.drop off).take n) ((vs.drop off).take n):=((k3.drop off).take n).lift;rw[d];refine⟨_,by rw[p.len];exact bD h2,.inr (.inl ⟨k,_,_,_,_,_,ad,c,e2,rfl,rfl,fun i u hu=>?_⟩),_,cG p,h3⟩;rw[aaN] at hu;split at hu
   case isFalse=>cases hu
   rw[aaL] at hu;rw[Nat.add_assoc];exact k4 _ _ hu
  ·rename_i k bz j w;split at h
   case h_2=>exact h.elim
   rename_i hn;obtain rfl:=xo hn;obtain⟨o,h1,h2⟩:=h;obtain⟨g,t,cs,ad,d,e2,e3⟩:=LD he w;rw[e2];exact⟨_,rfl,.inl (DJ e3 (v:=.pointer (some ⟨g,o,none⟩)) (by rw[aaT,h1];rfl)),.ownv k o,⟨_,.inl rfl,by simp only[Rel];exact⟨g,t,cs,d,rfl⟩⟩,h2⟩
  ·exact h.elim
 case loadR agg n x =>
  split at h
  ·rename_i k off w;obtain⟨d,_⟩:=fo he w;rw[d];split at h
   case h_2=>exact h.elim
   rename_i t cs hk;obtain⟨g,ty,vs,hL,hr,am⟩:=kP ht.tl hk;split at h
   case h_2=>exact h.elim
   rename_i hl;have p:=(hr.drop off).take n;simp only[hL];rw[f8 am.2.2 (dw (by rw[p.len];exact bD hl))];exact⟨_,cG p,h⟩
  ·rename_i es off w;split at h
   case h_2=>exact h.elim
   rename_i hl;obtain⟨b,o,j,vs,d,hp,ho,hr⟩:=py he w;have p:aF F L ((es.drop off).take n) ((vs.drop off).take n):=((hr.drop off).take n).lift;rcases d with⟨d,rfl⟩ | d
   ·rw[d];exact⟨_,by rw[p.len];exact bD hl,.inl (j4 (es:=es) hp),_,cG p,h⟩
   ·rw[d];exact⟨_,by rw[p.len];exact bD hl,.inl (j4 (es:=es) hp),_,cG p,h⟩
  ·rename_i k off w;split at h
   case h_2=>exact h.elim
   rename_i t cs hk;obtain⟨g',ty',da,d,bm⟩:=m7 he w;obtain⟨g,ty,vs,hL,hr,am⟩:=kP ht.tl hk;rw[hL] at d;injection d with d
   injection d with q1 q2 q3
   subst q1 q2 q3;split at h
   case h_2=>exact h.elim
   rename_i hl;have p:=(hr.drop off).take n;have aa:((vs.drop off).take n).length=n:=by rw[p.len];exact bD hl
   have az:∀(i:Nat) (u:Value),((vs.drop off).take n)[i]?=some u->vs[off+i]?=some u:=by
    intro i u hu;rw[aaN] at hu;split at hu
    case isFalse=>cases hu
    rwa [aaL] at hu
   rcases bm with e2 | ⟨b,o,j,e2,e3⟩
   ·rw[e2];exact⟨_,aa,.inr (.inr (.inr ⟨k,g,ty,vs,off,hL,am.2.2,rfl,fun i u hu=>by rw[Nat.add_zero];exact az i u hu⟩)),_,cG p,h⟩
   ·injection e3 with e3
    injection e3 with e3
    injection e3 with q1 q2 q3
    subst q1 q2;rw[e2];exact⟨_,aa,.inr (.inr (.inr ⟨k,g,ty,vs,o,hL,am.2.2,rfl,fun i u hu=>az i u hu⟩)),_,cG p,h⟩
  ·rename_i k j off w;split at h
   case h_2=>exact h.elim
   rename_i t sz els hk;obtain⟨es,h1,h2,h3⟩:=h;obtain⟨ad,t',aE,m,c,cc,d,e2⟩:=tO he w;obtain⟨v,xs,e3,_,hr⟩:=kQ ht.tl hk;rw[e2] at e3;injection e3 with e3
   injection e3 with q1 q2 q3 q4 q5
   subst q2 q3 q5;obtain⟨vs,k1,k2,k3,k4⟩:=hr.at h1;have p:aF F L ((es.drop off).take n) ((vs.drop off).take n):=((k3.drop off).take n).lift;rw[d];refine⟨_,by rw[p.len];exact bD h2,.inr (.inl ⟨k,_,_,_,_,_,ad,c,e2,rfl,rfl,fun i u hu=>?_⟩),_,cG p,h3⟩;rw[aaN] at hu;split at hu
   case isFalse=>cases hu
   rw[aaL] at hu;rw[Nat.add_assoc];exact k4 _ _ hu
  ·exact h.elim
 case loadD agg n x =>
  split at h
  ·rename_i k off w;obtain⟨d,_⟩:=fo he w;rw[d];split at h
   case h_3=>exact h.elim
   case h_2 =>
    rename_i t pre cs post hk;obtain⟨g,ty,v1,v2,v3,hL,be,hr,cY,am⟩:=sQ ht.tl hk;rcases h with⟨o,rfl,h⟩ | ⟨us,e,hl,h⟩
    case inr =>
     have p:=((be.lift (L:=L)).drop off).take n;rw[e] at p;have aa:((v1.drop off).take n).length=n:=by rw[p.len];exact bD hl
     have hp:(((v1++(v2++v3)).drop off).take n)=(v1.drop off).take n:=by
      by_cases bi:n=0
      ·subst bi;simp
      have:off+n<=v1.length:=by simp at aa;omega
      rw[List.drop_append_of_le_length (by omega),List.take_append_of_le_length (by simp;omega)]
     simp only[hL];rw[hp,f8 am.2.2 (dw aa)];exact⟨_,cG p,h⟩
    split at h
    case h_2=>exact h.elim
    rename_i hl;have p:=(hr.drop o).take n;have aa:((v2.drop o).take n).length=n:=by rw[p.len];exact bD hl
    simp only[hL]
    by_cases bi:n=0
    ·subst bi;rw[f8 am.2.2 (dw (by simp))];simp only[List.take_zero] at h p ⊢;exact⟨_,cG p,h⟩
    have hn:o+n<=v2.length:=by simp at aa;omega
    have hp:=Cg (v1:=v1) (v3:=v3) aa hn;rw[<-be.len,hp,f8 am.2.2 (dw aa)];exact⟨_,cG p,h⟩
   rename_i t cs hk;obtain⟨g,ty,vs,hL,hr,am⟩:=kP ht.tl hk;split at h
   case h_2=>exact h.elim
   rename_i hl;have p:=(hr.drop off).take n;simp only[hL];rw[f8 am.2.2 (dw (by rw[p.len];exact bD hl))];exact⟨_,cG p,h⟩
  ·rename_i es off w;split at h
   case h_2=>exact h.elim
   rename_i hl;obtain⟨b,o,j,vs,d,hp,ho,hr⟩:=py he w;have p:aF F L ((es.drop off).take n) ((vs.drop off).take n):=((hr.drop off).take n).lift;rcases d with⟨d,rfl⟩ | d
   ·rw[d];exact⟨_,by rw[p.len];exact bD hl,.inl (j4 (es:=es) hp),_,cG p,h⟩
   ·rw[d];exact⟨_,by rw[p.len];exact bD hl,.inl (j4 (es:=es) hp),_,cG p,h⟩
  ·exact h.elim
 case gload g =>
  split at h
  case h_2=>exact h.elim
  rename_i k hg;obtain⟨v,t,fr,h1,h2⟩:=G9 ht.glob hg;exact⟨v,t,fr,h1,.opq k,⟨_,rfl,by simp only[Rel];exact h2⟩,h⟩
 case loadF agg n x =>
  split at h
  ·rename_i es off w;split at h
   case h_2=>exact h.elim
   rename_i hl;obtain⟨b,o,j,vs,d,hp,ho,hr⟩:=py he w;have p:aF F L ((es.drop off).take n) ((vs.drop off).take n):=((hr.drop off).take n).lift;rcases d with⟨d,rfl⟩ | d
   ·rw[d];exact⟨_,by rw[p.len];exact bD hl,.inl (j4 (es:=es) hp),_,cG p,h⟩
   ·rw[d];exact⟨_,by rw[p.len];exact bD hl,.inl (j4 (es:=es) hp),_,cG p,h⟩
  ·exact h.elim
 case loadK key agg n x =>
  split at h
  ·rename_i k off w;obtain⟨d,_⟩:=fo he w;rw[d];split at h
   case h_2=>exact h.elim
   rename_i hb;simp only[hb];split at h
   case h_2=>exact h.elim
   rename_i t cs hk;obtain⟨g,ty,vs,hL,hr,am⟩:=kP ht.tl hk;split at h
   case h_2=>exact h.elim
   rename_i hl;have p:=(hr.drop off).take n;simp only[hL];rw[f8 am.2.2 (dw (by rw[p.len];exact bD hl))];exact⟨_,cG p,h⟩
  ·exact h.elim
 case b2sD x =>
  split at h
  ·rename_i els w;obtain⟨bs,rfl,h⟩:=h;obtain⟨a,c,sz,d,e2,e3,e4,e5⟩:=j6 he w;rw[d];have aa:(af bs).length=bs.length:=by simp[af]
   refine⟨bs.map fun b=>Value.int .u8 b.toNat,by simp[aa],?_,bs,rfl,_,tT ?_,h⟩
   ·rcases vo e5 e4 with h1 | h1
    ·exact .inl h1
    ·exact .inr (by rw[aa];exact h1)
   ·rw[aa] at e2;show bs.toArray.size<=maxLen;simp;exact(by simpa[af] using e3)
  ·exact h.elim
 case b2sR x =>
  split at h
  case h_2=>exact h.elim
  rename_i k w;split at h
  case h_2=>exact h.elim
  rename_i t sz els hk;split at h
  case h_2=>exact h.elim
  rename_i bv;have:=xo bv;subst this;obtain⟨bs,rfl,h⟩:=h;obtain⟨a,c,t',aE,n,cc,d,e2⟩:=sO he w;obtain⟨v,xs,e3,⟨hm,a',c',q6,q7⟩,hr⟩:=kQ ht.tl hk;have aa:(af bs).length=bs.length:=by simp[af]
  rw[e2] at e3;injection e3 with e3
  injection e3 with q1 q2 q3 q4 q5
  subst q2 q3 q4 q5;have w:=zE hr;subst w;rw[<-q1] at q6;injection q6 with q6 q8
  subst q6;rw[d];refine⟨k,_,c,bs,e2,aa.symm,q7,_,tT ?_,h⟩;show bs.toArray.size<=maxLen;simp;omega
 case mkif t x =>
  split at h
  ·rename_i k n w;obtain⟨d,e2⟩:=eX he w;rw[d];exact⟨.ifc t (.int k n),⟨_,rfl,by simp only[Rel];exact⟨_,rfl,rfl,e2⟩⟩,h⟩
  ·rename_i b w;rw[iO he w];exact⟨.ifc t (.bool b),⟨_,rfl,by simp only[Rel];exact⟨_,rfl,rfl⟩⟩,h⟩
  ·rename_i s w;obtain⟨d,e2⟩:=jY he w;rw[d];exact⟨.ifc t (.str s),⟨_,rfl,by simp only[Rel];exact⟨_,rfl,rfl,e2⟩⟩,h⟩
  ·rename_i es off w;obtain⟨b,o,j,vs,d,hp,ho,hr⟩:=py he w;rcases d with⟨d,rfl⟩ | d
   ·rw[d];exact⟨.ifc t (.pt es off),⟨_,rfl,by simp only[Rel];exact⟨_,rfl,b,o,vs,rfl,hp,ho,hr⟩⟩,h⟩
   ·rw[d];exact⟨.ifc t (.pt es off),⟨_,rfl,by simp only[Rel];exact⟨_,rfl,b,o+j,vs,by rw[cm],hp,ho,hr⟩⟩,h⟩
  ·rename_i k off w;obtain⟨d,g,t',cs,e2⟩:=fo he w;rw[d];simp only[e2];exact⟨.ifo none t k off,⟨_,rfl,by simp only[Rel];exact⟨g,t',cs,e2,rfl⟩⟩,h⟩
  ·rename_i k off w;obtain⟨g,t',cs,d,e2⟩:=m7 he w;rcases e2 with e2 | ⟨b,o,j,e2,e3⟩
   ·rw[e2];exact⟨.ifo none t k off,⟨_,rfl,by simp only[Rel];exact⟨g,t',cs,d,rfl⟩⟩,h⟩
   ·rw[e2];exact⟨.ifo none t k off,⟨_,rfl,by simp only[Rel];exact⟨g,t',cs,d,by rw[cm,e3];rfl⟩⟩,h⟩
  ·rename_i cs w;split at h
   case h_2=>exact h.elim
   rename_i hp;rw[eV] at h;obtain⟨vs,d,e2⟩:=vZ he w;rw[d];exact⟨.ifc t (.agg cs),⟨_,rfl,by simp only[Rel];exact⟨_,rfl,vs,rfl,eS hp e2⟩⟩,h⟩
  ·exact h.elim
 case mkmv nm x =>
  split at h
  ·rename_i t c w;obtain⟨u,d,hr⟩:=AK he w;rw[d];exact⟨.mval nm (.ifc t c),⟨_,rfl,by simp only[Rel];exact⟨_,rfl,_,rfl,hr⟩⟩,h⟩
  ·rename_i t k off w;obtain⟨g,t',cs,hg,d⟩:=pu he w;rw[d];exact⟨.ifo (some nm) t k off,⟨_,rfl,by simp only[Rel];exact⟨g,t',cs,hg,rfl⟩⟩,h⟩
  ·exact h.elim
 case nilck x =>
  split at h
  ·rename_i k off w;obtain⟨d,e2⟩:=fo he w;rw[d];exact⟨.own k off,⟨rfl,e2⟩,h⟩
  ·rename_i es off w;obtain⟨b,o,j,vs,d,hp,ho,hr⟩:=py he w;rcases d with⟨d,rfl⟩ | d
   ·rw[d];exact⟨.pt es off,⟨b,o,0,vs,.inl ⟨rfl,rfl⟩,hp,ho,hr⟩,h⟩
   ·rw[d];exact⟨by simp,.pt es off,⟨b,o,j,vs,.inr rfl,hp,ho,hr⟩,h⟩
  ·rename_i k off w;obtain⟨g,t,cs,d,e2⟩:=m7 he w;rcases e2 with e2 | ⟨b,o,j,e2,e3⟩
   ·rw[e2];exact⟨.ownv k off,⟨_,.inl rfl,by simp only[Rel];exact⟨g,t,cs,d,rfl⟩⟩,h⟩
   ·rw[e2];exact⟨by simp,.ownv k off,⟨_,.inr ⟨b,o,j,rfl,rfl⟩,by simp only[Rel];exact⟨g,t,cs,d,e3.symm⟩⟩,h⟩
  ·rename_i f fi ca w;obtain⟨cy,cw,d,h1,h2⟩:=sP he w;rw[d];exact⟨.fn f fi ca,⟨_,rfl,by simp only[Rel];exact⟨cy,cw,rfl,h1,h2⟩⟩,h⟩
  ·rename_i nm c w;split at h
   case h_2=>exact h.elim
   rename_i t c;obtain⟨u,d,hr⟩:=xj he w;have dE:=hr;simp only[Rel] at hr;obtain⟨u',rfl,hu⟩:=hr;rw[d];exact⟨h.1,.mval nm (.ifc t c),⟨_,rfl,by simp only[Rel];exact⟨_,rfl,_,rfl,hu⟩⟩,h.2⟩
  ·rename_i nm t k off w;obtain⟨g,t',cs,hg,d⟩:=pu he w;rw[d];exact⟨h.1,.ifo (some nm) t k off,⟨_,rfl,by simp only[Rel];exact⟨g,t',cs,hg,rfl⟩⟩,h.2⟩
  ·exact h.elim
 case bin op x y =>
  split at h
  ·rename_i k a k' b w hy;obtain⟨d,w1⟩:=eX he w;obtain⟨e2,w2⟩:=eX he hy;rw[d,e2];split at h
   ·rename_i ci;simp only[ci];exact Ij w1 h fun v hv hV=>⟨_,xh hv,hV⟩
   ·rename_i ci;simp only[ci];split at h
    case h_2=>exact h.elim
    rename_i hk;simp only[hk];exact Gh w1 h fun v hv hV=>⟨_,xh hv,hV⟩
  ·rename_i a b w hy;rw[(jY he w).1,(jY he hy).1];exact Gi h fun v hv hV=>⟨_,xh hv,hV⟩
  ·exact h.elim
 case eqB neg x y =>
  split at h
  case h_2=>exact h.elim
  rename_i a b w hy;rw[iO he w,iO he hy];exact⟨_,cN,h⟩
 case eqP neg x y =>
  have hy:DF y=true->ev ρ y=.v (.pointer none):=by
   unfold DF;split
   ·intro _;rfl
   ·intro e;cases e
  split at h
  ·rename_i k off h1 w;rw[(fo he w).1,hy h1];exact⟨_,cN,h⟩
  ·rename_i k off h1 w;obtain⟨g,t,cs,d,e2⟩:=m7 he w;rcases e2 with e2 | ⟨b,o,j,e2,_⟩
   ·rw[e2,hy h1];exact⟨_,cN,h⟩
   ·rw[e2,hy h1];exact⟨_,cN,h⟩
  ·rename_i es off h1 w;obtain⟨b,q,j,vs,d,hp,ho,hr⟩:=py he w;rcases d with⟨d,rfl⟩ | d
   ·rw[d,hy h1];exact⟨_,cN,h⟩
   ·rw[d,hy h1];exact⟨_,cN,h⟩
  ·rename_i h1 w;rw[Ik he w,hy h1];exact⟨_,cN,h⟩
  ·exact h.elim
 case eqS neg x y =>
  have hy:isNil y=true->ev ρ y=.v (.slice none 0 0):=by
   unfold isNil;split
   ·intro _;rfl
   ·intro e;cases e
  split at h
  ·rename_i els h1 w;obtain⟨a,c,sz,d,e2,e3,e4,e5⟩:=Pe he w;rw[d,hy h1];refine⟨_,cN,h _ fun bl=>?_⟩;cases a with
   | none=>exact vv (e4 rfl).1 bl
   | some a=>rfl
  ·rename_i els h1 w;obtain⟨a,sz,d,_⟩:=AP he w;rw[d,hy h1];exact⟨_,cN,h⟩
  ·rename_i h1 w;rw[oF he w,hy h1];exact⟨_,cN,h⟩
  ·exact h.elim
 case eqF neg x y =>
  have hy:DG y=true->ev ρ y=.v .nilFunc:=by
   unfold DG;split
   ·intro _;rfl
   ·intro e;cases e
  split at h
  ·rename_i h1 w;rw[Il he w,hy h1];exact⟨_,cN,h⟩
  ·rename_i f fi ca h1 w;obtain⟨cy,cw,d,_,_⟩:=sP he w;rw[d,hy h1];exact⟨_,cN,h⟩
  ·exact h.elim
 case eqN neg x =>
  split at h
  ·rename_i t c w;obtain⟨u,d,_⟩:=AK he w;rw[d];exact⟨_,cN,h⟩
  ·rename_i t k off w;obtain⟨g,t',cs,hg,d⟩:=pu he w;rw[d];exact⟨_,cN,h⟩
  ·rename_i k w;split at h
   case h_2=>exact h.elim
   rename_i b hb;obtain⟨v,d,h1⟩:=AL he w;rw[d];obtain⟨q1,q2⟩:=Hf h1 hb;cases b with
   | true=>rw[q1 rfl];exact⟨_,cN,h⟩
   | false=>obtain⟨t,u,rfl⟩:=q2 rfl;exact⟨_,cN,h⟩
  ·exact h.elim
 case tas t z x =>
  have hz:Rel F L (cv z).cel z:=lG (Pd z);split at h
  ·rename_i t' c w;obtain⟨u,d,hr⟩:=AK he w;rw[d];simp only[EF] at h;cases hb:Nat.beq t' t with
   | true =>
    rw[hb] at h;simp only[hb];exact⟨.tup [c,.bool true],⟨_,rfl,by simp only[Rel];exact⟨[u,.bool true],rfl,by simp only[aF,Rel];exact⟨_,_,rfl,hr.lift,_,_,rfl,rfl,rfl⟩⟩⟩,h⟩
   | false =>
    rw[hb] at h;simp only[hb];exact⟨.tup [(cv z).cel,.bool false],⟨_,rfl,by simp only[Rel];exact⟨[z,.bool false],rfl,by simp only[aF,Rel];exact⟨_,_,rfl,hz,_,_,rfl,rfl,rfl⟩⟩⟩,h⟩
  ·rename_i t' k off w;obtain⟨g,t0,cs,hg,d⟩:=pu he w;rw[d];simp only[EF] at h;cases hb:Nat.beq t' t with
   | true =>
    rw[hb] at h;simp only[Cc,hb];exact⟨.tup [.own k off,.bool true],⟨_,rfl,by simp only[Rel];exact⟨[.pointer (some ⟨g,off,none⟩),.bool true],rfl,by simp only[aF,Rel];exact⟨_,_,rfl,⟨g,t0,cs,hg,rfl⟩,_,_,rfl,rfl,rfl⟩⟩⟩,h⟩
   | false =>
    rw[hb] at h;simp only[Cc,hb];exact⟨.tup [(cv z).cel,.bool false],⟨_,rfl,by simp only[Rel];exact⟨[z,.bool false],rfl,by simp only[aF,Rel];exact⟨_,_,rfl,hz,_,_,rfl,rfl,rfl⟩⟩⟩,h⟩
  ·exact h.elim
 case eqA neg ks x y =>
  split at h
  case h_2=>exact h.elim
  rename_i cs ds w hy;split at h
  case h_2=>exact h.elim
  rename_i b hb;obtain⟨vs,d,h1⟩:=vZ he w;obtain⟨us,e2,h2⟩:=vZ he hy;simp only[d,e2];rw[LI hb h1 h2];exact⟨_,cN,h⟩
 case un op x =>
  split at h
  ·rename_i b w;rw[iO he w];exact⟨_,cN,h⟩
  ·rename_i k n w;rw[(eX he w).1];exact⟨⟨_,iQ (wf_wrap _ _),h.out⟩⟩
  ·rename_i k n w;rw[(eX he w).1];exact⟨_,iQ (wf_wrap _ _),h⟩
  ·exact h.elim
 case conv k x =>
  split at h
  case h_2=>exact h.elim
  rename_i k' n w;rw[(eX he w).1];exact⟨⟨_,iQ (wf_wrap _ _),h.out⟩⟩
 case b2s x =>
  split at h
  ·rename_i els w;obtain⟨bs,rfl,h⟩:=h;obtain⟨a,c,sz,d,e2,e3,e4,e5⟩:=j6 he w;rw[d];have aa:(af bs).length=bs.length:=by simp[af]
   refine⟨bs.map fun b=>Value.int .u8 b.toNat,by simp[aa],?_,bs,rfl,_,tT ?_,h⟩
   ·rcases vo e5 e4 with h1 | h1
    ·exact .inl h1
    ·exact .inr (.inr (.inl (by rw[aa];exact h1)))
   ·rw[aa] at e2;show bs.toArray.size<=maxLen;simp;exact(by simpa[af] using e3)
  ·exact h.elim
 case mkfn f fi ca=>exact⟨.fn f _ _,⟨_,rfl,by simp only[Rel];exact⟨_,_,rfl,cZ he fi,cZ he ca⟩⟩,h⟩
 case slc sz x lo hi =>
  split at h
  case h_2=>exact h.elim
  rename_i els w;split at h
  case h_2=>exact h.elim
  rename_i l r hl hh;obtain⟨h1,h2,h3,h4,h5⟩:=h;obtain⟨a,c,aE,d,e2,e3,e4,e5⟩:=j6 he w;rw[d];simp only[v9 he hl,v9 he hh];refine⟨h1,h2,by omega,_,?_,h5⟩;have aa:((els.drop l.toNat).take (r.toNat-l.toNat)).length=r.toNat-l.toNat:=by simp;omega
  have hs:els≠[]->aE=sz:=by
   intro bl;obtain⟨es,cX⟩:=List.exists_mem_of_ne_nil _ bl;obtain⟨i,hi⟩:=aaE.1 cX;obtain⟨vs,k1,_,_,k4⟩:=mW.1 e5 i es hi;rw[<-k1,k4.len,h4 es cX]
  have key:=Io (l:=l.toNat) (h:=r.toNat) e5 e4 (by omega) (by omega) e2;unfold gj;have:=EK (F:=F) (L:=L) (els:=(els.drop l.toNat).take (r.toNat-l.toNat)) (a:=if c=l.toNat then a else a.map (·.add (l.toNat*sz))) (c:=c-l.toNat) (sz:=sz) (by rw[aa];omega) (by rw[aa];omega) ?_ ?_
  ·rw[aa] at this;exact this
  ·intro hn;have ha:a=none:=by
    split at hn
    ·exact hn
    ·cases a with
     | none=>rfl
     | some a=>simp at hn
   obtain⟨q1,q2⟩:=e4 ha;subst q1;simp;omega
  ·by_cases bl:els=[]
   ·subst bl;simp only[List.drop_nil,List.take_nil,gF]
   ·rw[hs bl] at key;exact key
 case slcS x lo hi =>
  split at h
  case h_2=>exact h.elim
  rename_i s w;split at h
  case h_2=>exact h.elim
  rename_i l r hl hh;obtain⟨h1,h2,h3,h5⟩:=h;rw[(jY he w).1];simp only[v9 he hl,v9 he hh];refine⟨h1,h2,h3,_,tT ?_,h5⟩;have:=(jY he w).2;rw[ByteArray.size_extract];omega
 case fieldA off x =>
  split at h
  ·rename_i k o w;obtain⟨d,e2⟩:=fo he w;rw[d];exact⟨.own k (o+off),⟨rfl,e2⟩,h⟩
  ·rename_i es o w;obtain⟨b,q,j,vs,d,hp,ho,hr⟩:=py he w;have cr:∀j',q+j'=q+j+off->Ls F b (q+j') (o+off) vs:=by
    intro j' hj;obtain⟨cx,cM,t,fr,k1,k2,k3⟩:=hp;exact⟨cx,cM,t,fr,k1,by omega,k3⟩
   rcases d with⟨d,rfl⟩ | d
   ·rw[d];exact⟨.pt es (o+off),⟨b,q,off,vs,.inr rfl,cr _ (by omega),ho,hr⟩,h⟩
   ·rw[d];exact⟨.pt es (o+off),⟨b,q,j+off,vs,.inr rfl,cr _ (by omega),ho,hr⟩,h⟩
  ·rename_i k j o w;obtain⟨ad,t,sz,n,c,xs,d,e2⟩:=tO he w;rw[d];exact⟨.elr k j (o+off),⟨ad,t,sz,n,c,xs,by rw[Nat.add_assoc],e2⟩,h⟩
  ·rename_i k o w;obtain⟨g,t,cs,d,e2⟩:=m7 he w;rcases e2 with e2 | ⟨b,q,j,e2,e3⟩
   ·rw[e2];exact⟨.ownv k (o+off),⟨_,.inr ⟨g,o,off,rfl,rfl⟩,by simp only[Rel];exact⟨g,t,cs,d,rfl⟩⟩,h⟩
   ·rw[e2];injection e3 with e3
    injection e3 with e3
    injection e3 with e4 e5
    subst e4;exact⟨.ownv k (o+off),⟨_,.inr ⟨g,q,j+off,rfl,rfl⟩,by simp only[Rel];exact⟨g,t,cs,d,by rw[e5,Nat.add_assoc]⟩⟩,h⟩
  ·exact h.elim
 case fieldV agg off n x =>
  split at h
  case h_2=>exact h.elim
  rename_i cs w;split at h
  case h_2=>exact h.elim
  rename_i hl;obtain⟨vs,d,hr⟩:=vZ he w;have p:=(hr.drop off).take n;rw[d];simp only[];rw[dw (by rw[p.len];exact bD hl)];exact⟨_,cG p,h⟩
 case idxA sz x i =>
  split at h
  ·rename_i els k i w hi;obtain⟨es,h1,h2,h3,h4⟩:=h;obtain⟨a,c,aE,d,e2,e3,e4,e5⟩:=j6 he w;rw[d,(eX he hi).1];have bu:i.toNat<els.length:=(aai.1 h2).1;obtain⟨vs,k1,⟨ad,cM,t,fr,e,hb,dq,hv⟩,k3,k4⟩:=mW.1 e5 _ _ h2;have hs:aE=sz:=by rw[<-k1,k4.len,bD h3]
   subst hs;subst e;refine⟨by simp,h1,by omega,_,Iq hb dq (fun i v hi=>?_) k3 k4,h4⟩;have:=hv i v hi;simpa using this
  ·rename_i k i' i w hi;split at h
   case h_2=>exact h.elim
   rename_i t aE els hk;split at h
   case h_2=>exact h.elim
   rename_i bv;have:=xo bv;subst this;obtain⟨h1,h2,h3⟩:=h;obtain⟨a,c,t',aE,n,cc,d,e2⟩:=sO he (AO w);obtain⟨v,xs,e3,⟨_,a',c',q6,q7⟩,hr⟩:=kQ ht.tl hk;rw[e2] at e3;injection e3 with e3
   injection e3 with q1 q2 q3 q4 q5
   subst q2 q3 q4;rw[d,(eX he hi).1];cases a with
   | none =>
    rw[<-q1] at q6;injection q6 with q6
    have:=q7 q6.symm;omega
   | some ad=>exact⟨by simp,h1,h2,.elr k i.toNat 0,⟨ad,_,_,_,c,_,by simp,e2⟩,h3⟩
  ·rename_i k bz k' i w hi;split at h
   case h_2=>exact h.elim
   rename_i bv;obtain rfl:=xo bv;obtain⟨h1,h2,h3⟩:=h;obtain⟨g,t,cs,ad,d,e2,e3,e4⟩:=EI he (EJ w);rw[e2,(eX he hi).1];exact⟨by simp,h1,h2,.slp k bz i.toNat,⟨g,t,cs,ad,d,by rw[Nat.mul_one],e4⟩,h3⟩
  ·exact h.elim
 case idxS x i =>
  split at h
  case h_2=>exact h.elim
  rename_i s k i w hi;obtain⟨h1,h2,h3⟩:=h;rw[(jY he w).1,(eX he hi).1];refine⟨h1,h2,_,iQ ?_,h3⟩;have:=(s.data.toList.getD i.toNat 0).toNat_lt;generalize(s.data.toList.getD i.toNat 0).toNat=m at *;simp[Lit.wf,IntKind.min,IntKind.max,IntKind.bits,IntKind.signed];omega
 case extr x i =>
  split at h
  case h_2=>exact h.elim
  rename_i cs w;split at h
  case h_2=>exact h.elim
  rename_i v hv;obtain⟨vs,d,hr⟩:=Ly he w;rw[d];have bu:i<vs.length:=by rw[hr.len];exact(aai.1 hv).1
  simp only[aag bu];exact⟨_,jZ (hr.at hv (aag bu)),h⟩
 case len x =>
  have wl:∀n:Nat,n<=maxLen->(Lit.int .i64 (n:Int)).wf=true:=by
   intro n hn;simp only[maxLen] at hn;simp[Lit.wf,IntKind.min,IntKind.max,IntKind.bits,IntKind.signed];omega
  split at h
  ·rename_i els w;obtain⟨a,c,aE,d,e2,e3,e4,e5⟩:=j6 he w;rw[d];exact⟨_,iQ (wl _ e3),h⟩
  ·rename_i k w;split at h
   case h_2=>exact h.elim
   rename_i t aE els hk;obtain⟨a,c,t',aE,n,cc,d,e2⟩:=sO he (AO w);obtain⟨v,xs,e3,⟨hm,_⟩,hr⟩:=kQ ht.tl hk;rw[e2] at e3;injection e3 with e3
   injection e3 with q1 q2 q3 q4 q5
   subst q4;rw[d];exact⟨_,iQ (wl _ hm),h⟩
  ·rename_i k w;obtain⟨n,h1,h2,h3⟩:=h;obtain⟨v,d,e2⟩:=AL he (LG w);obtain⟨a,c,rfl⟩:=KI e2 h1;rw[d];exact⟨_,iQ (wl _ (by simpa[maxLen] using h2)),h3⟩
  ·rename_i k bz w;obtain⟨g,t,cs,ad,d,e2,e3,e4⟩:=EI he (EJ w);rw[e2];exact⟨_,iQ (wl _ e3),h⟩
  ·exact h.elim
 case lenS x =>
  split at h
  case h_2=>exact h.elim
  rename_i s w;obtain⟨d,e2⟩:=jY he w;rw[d];refine⟨_,iQ ?_,h⟩;simp only[maxLen] at e2;simp[Lit.wf,IntKind.min,IntKind.max,IntKind.bits,IntKind.signed];omega
 case mlook str ok z x i =>
  split at h
  case h_2=>exact h.elim
  rename_i k w;split at h
  case h_2=>exact h.elim
  rename_i es hk;obtain⟨g,cs,d,e2⟩:=AQ he w;obtain⟨g',vs,e3,hE⟩:=DL ht.tl hk;rw[e2] at e3;injection e3 with e3
  injection e3 with q1 q2 q3
  subst q1 q3;rw[d];refine⟨k,cs,e2,hE.isMap,⟨?_⟩⟩;rcases h.out with⟨c,h1,h2⟩ | ⟨h1,h2⟩
  ·obtain⟨j,v,h3,h4⟩:=xk (EL he) 0 hE h1;refine .inl ⟨j,v,h3,?_⟩;have h5:Rel F L c v:=h4.lift;cases ok with
   | true=>exact⟨_,zF h5,h2⟩
   | false=>exact⟨_,jZ h5,h2⟩
  ·refine .inr ⟨xk (EL he) 0 hE h1,?_⟩;have h5:Rel F L (cv z) z:=Pf z;cases ok with
   | true=>exact⟨_,zF h5,h2⟩
   | false=>exact⟨_,Pd z,h2⟩
 case mlen x =>
  split at h
  case h_2=>exact h.elim
  rename_i k w;split at h
  case h_2=>exact h.elim
  rename_i es hk;obtain⟨g,cs,d,e2⟩:=AQ he w;obtain⟨g',vs,e3,hE⟩:=DL ht.tl hk;rw[e2] at e3;injection e3 with e3
  injection e3 with q1 q2 q3
  subst q1 q3;rw[d];refine⟨k,cs,e2,hE.isMap,_,iQ ?_,?_⟩
  ·rw[hE.len];have:=h.1;simp only[maxLen] at this;simp[Lit.wf,IntKind.min,IntKind.max,IntKind.bits,IntKind.signed];omega
  ·rw[hE.len];exact h.2
 case mm mx args =>
  split at h
  case h_2=>exact h.elim
  rename_i k a l hl;split at h
  case h_2=>exact h.elim
  rename_i m hm
  match args,hl with
  | x::args,hl =>
   simp only[aao,List.cons.injEq] at hl;obtain⟨w,rfl⟩:=hl;simp only[aao,(eX he w).1,Im he mx args hm];exact⟨_,iQ h.1,h.2⟩
end
theorem TL.Zz (L:TL) (k:Nat) (o:TO) (j:Nat):(L.set k o).get j=if j=k then some o else L.get j:=by
 induction L with
 | nil =>
  simp only[TL.set,TL.get];cases h:Nat.beq k j with
  | true=>have:=xo h;simp[this]
  | false=>have:=fP h;simp;omega
 | cons p l b =>
  obtain⟨i,q⟩:=p;simp only[TL.set];cases h:Nat.beq i k with
  | true =>
   have e:=xo h;subst e;simp only[TL.get];cases a:Nat.beq i j with
   | true=>have:=xo a;simp[this]
   | false=>have:=fP a;simp;omega
  | false =>
   have c:=fP h;simp only[];cases d:Nat.ble i k with
   | true =>
    simp only[TL.get];cases a:Nat.beq i j with
    | true=>have:=xo a;simp;omega
    | false=>simpa using b
   | false =>
    simp only[TL.get];cases a:Nat.beq k j with
    | true=>have:=xo a;simp[this]
    | false =>
     have:=fP a;simp only[];rw[vz (by omega)]
theorem TL.ZE (L:TL) (k j:Nat):(L.del k).get j=if j=k then none else L.get j:=by
 induction L with
 | nil=>simp[TL.del,TL.get]
 | cons p l c =>
  obtain⟨i,q⟩:=p;simp only[TL.del];cases h:Nat.beq i k with
  | true =>
   have e:=xo h;subst e;simp only[TL.get,c]
   by_cases b:j=i
   ·simp[b]
   ·have:Nat.beq i j=false:=by cases a:Nat.beq i j with | true=>exact vv (xo a).symm b | false=>rfl
    simp[b,this]
  | false =>
   have d:=fP h;simp only[TL.get];cases a:Nat.beq i j with
   | true=>have:=xo a;simp;omega
   | false=>simpa using c
theorem tU:∀(l:List TO) (k j:Nat),TL.get (jl k l) j=if k<=j then l[j-k]? else none
 | [],k,j=>by simp[jl,TL.get]
 | o::l,k,j=>by
  simp only[jl,TL.get];cases h:Nat.beq k j with
  | true=>have:=xo h;subst this;simp
  | false =>
   have b:=fP h;simp only[tU l (k+1) j]
   by_cases a:k<=j
   ·rw[o6 (by omega),o6 a,show j-k=(j-(k+1))+1 by omega,aaY]
   ·rw[vz (by omega),vz a]
theorem cA (l:List TO) (j:Nat):TL.get (jn l) j=if 1000<=j then l[j-1000]? else none:=tU l 1000 j
theorem Ch:∀{L:TL}{ks:List Nat}{l:List TO},L.sub ks=some l->l.length=ks.length/\∀(i:Nat) (k:Nat),ks[i]?=some k->L.get k=l[i]?
 | L,[],l,h=>by simp only[TL.sub,yo] at h;subst h;simp
 | L,k::ks,l,h=>by
  simp only[TL.sub] at h;split at h
  case h_2=>cases h
  rename_i o f d c;injection h with h
  subst h;obtain⟨b,e⟩:=Ch c;refine⟨by simp[b],fun i a hi=>?_⟩;cases i with
  | zero=>simp at hi;subst hi;simpa using d
  | succ i=>simp at hi;simpa using e i a hi
theorem oG:∀(ks:List Nat) (L:TL) (j:Nat),(L.ZB ks).get j=if j∈ks then none else L.get j
 | [],L,j=>by simp[TL.ZB]
 | k::ks,L,j=>by
  simp only[TL.ZB,oG ks,TL.ZE,aal]
  by_cases b:j=k<;>by_cases a:j∈ks<;>simp[b,a]
theorem mL:∀(ko:List Nat) (l:List TO) (L:TL) (j:Nat),ko.Nodup->ko.length=l.length ->
  ((L.puts ko l).get j=L.get j/\j∉ko)\/∃i,ko[i]?=some j/\(L.puts ko l).get j=l[i]?/\i<l.length
 | [],l,L,j,_,h=>by
  refine .inl ⟨?_,by simp⟩;cases l<;>rfl
 | k::ko,[],L,j,_,h=>by simp at h
 | k::ko,o::l,L,j,d,h=>by
  simp only[aau,Nat.add_right_cancel_iff] at h;rw[List.nodup_cons] at d;simp only[TL.puts];rcases mL ko l (L.set k o) j d.2 h with⟨a,b⟩ | ⟨i,a,b,e⟩
  ·rw[TL.Zz] at a
   by_cases c:j=k
   ·subst c;rw[o6 rfl] at a;exact .inr ⟨0,by simp,by simpa using a,by simp⟩
   ·rw[vz c] at a;exact .inl ⟨a,by simp[c,b]⟩
  ·exact .inr ⟨i+1,by simpa using a,by simpa using b,by simp;omega⟩
theorem qE (g:C->C):∀(L:TL) (k:Nat),(TL.ZC g L).get k=(L.get k).map (TO.ZC g)
 | [],k=>rfl
 | (j,o)::l,k=>by
  simp only[TL.ZC,TL.get];cases h:Nat.beq j k with
  | true=>rfl
  | false=>exact qE g l k
section
variable {P:Program}{G:Nat->Option (Nat×TypeId)}{F:aD}{L:Loc}{ρ:Env}{M:TL}{τ:aX}
theorem AR (d:Option Nat) (c:C) (τ:aX) (t:Nat):bE d c τ t=match d with | some k=>if t=k then c else τ t | none=>τ t:=by
 cases d with
 | none=>rfl
 | some k =>
  simp only[bE];cases h:Nat.beq t k with
  | true=>have:=xo h;simp[this]
  | false=>have:=fP h;simp[this]
theorem LJ {F:aD}{L:Loc}{τ:aX}{ρ:Env}(h:∀j,aQ F L (τ j) (ρ j)) {c:C}{sv:SV}(a:aQ F L c sv) (d:Option Nat):∀j,aQ F L (bE d c τ j) (put d sv ρ j):=by
 intro j;rw[AR,put_eq];cases d with
 | none=>exact h j
 | some k =>
  simp only[];split
  ·exact a
  ·exact h j
theorem TS.put (a:TS G F L ρ M τ) {c:C}{sv:SV}(b:aQ F L c sv) (d:Option Nat):TS G F L (put d sv ρ) M (bE d c τ):=⟨a.tl,LJ a.env b d,a.kp,a.glob⟩
theorem eK {F:aD}{L:Loc}{a:Option TO}{b:Option Own}(h:Ie F L a b):(a=none/\b=none)\/∃o p,a=some o/\b=some p/\di F L o p:=by
 cases a<;>cases b<;>simp only[Ie] at h
 ·exact .inl ⟨rfl,rfl⟩
 ·exact .inr ⟨_,_,rfl,rfl,h⟩
theorem TS.new {F':aD}(f:F.le F') (b:TS G F L ρ M τ) {k:Nat}(l:L.get k=none) {o:Own}{to:TO}(m:di F' (L.set k o) to o):TS G F' (L.set k o) ρ (M.set k to) τ:=by
 have a:Ext L (L.set k o):=by
  intro j p e;refine⟨p,?_,Own.ZD p⟩;rw[Loc.Zz,vz (by rintro rfl;rw[l] at e;cases e)];exact e
 refine⟨fun j=>?_,fun j=>(b.env j).ext f a,fun j g t e=>?_,b.glob.mono f⟩
 ·rw[TL.Zz,Loc.Zz];split
  ·exact m
  ·rcases eK (b.tl j) with⟨d,c⟩ | ⟨p,q,d,c,n⟩
   ·rw[d,c];trivial
   ·rw[d,c];exact n.ext f a
 ·obtain⟨cs,h⟩:=b.kp j g t e;exact⟨cs,by rw[Loc.Zz,vz (by rintro rfl;rw[l] at h;cases h)];exact h⟩
theorem TS.mono {F':aD}(b:F.le F') (a:TS G F L ρ M τ):TS G F' L ρ M τ:=⟨a.tl.mono b,fun j=>(a.env j).mono b,a.kp,a.glob.mono b⟩
theorem TS.turn (c:TS G F L ρ M τ) {k:Nat}{o o':Own}(m:L.get k=some o) (s:Own.like o o') (b:∀g t cs,o=.box g t cs->∃cs',o'=.box g t cs') {to:TO}(n:∀L',Ext L L'->di F L' to o') :
  TS G F (L.set k o') ρ (M.set k to) τ:=by
 have a:Ext L (L.set k o'):=by
  intro j p e;rw[Loc.Zz];split
  ·rename_i l;subst l;rw[m] at e;injection e with e
   subst e;exact⟨o',rfl,s⟩
  ·exact⟨p,e,Own.ZD p⟩
 refine⟨fun j=>?_,fun j=>(c.env j).ext (aD.le_refl F) a,fun j g t e=>?_,c.glob⟩
 ·rw[TL.Zz,Loc.Zz];split
  ·exact n _ a
  ·rcases eK (c.tl j) with⟨f,d⟩ | ⟨p,q,f,d,r⟩
   ·rw[f,d];trivial
   ·rw[f,d];exact r.ext (aD.le_refl F) a
 ·obtain⟨cs,h⟩:=c.kp j g t e;rw[Loc.Zz];split
  ·rename_i l;subst l;rw[m] at h;injection h with h
   obtain⟨cs',u⟩:=b g t cs h;exact⟨cs',by rw[u]⟩
  ·exact⟨cs,h⟩
theorem kR {L':Loc}{k:Nat}(d:∀g t cs,L.get k≠some (.box g t cs)) (n:∀j,j≠k->∀o,L.get j=some o->∃o',L'.get j=some o'/\Own.like o o') {F':aD}(l:F.le F') (c:C) (v:Value) (r:c.leaf=true)
  (h:Rel F L c v):Rel F' L' (gT k c) v:=by
 cases c<;>simp only[C.leaf,aaq] at r<;>simp only[gT]
 case rw j =>
  cases q:Nat.beq j k with
  | true=>simp only[Rel]
  | false=>exact bC l (fun p e=>by
    rcases e with⟨off,e⟩ | e | e | ⟨_,_,_,e⟩ | ⟨_,_,e⟩
    ·cases e
    ·injection e with e;subst e;exact n j (fP q)
    ·cases e
    ·cases e
    ·cases e) rfl h
 case own j off =>
  refine bC l (fun p e=>?_) rfl h;rcases e with⟨off,e⟩ | e | e | ⟨_,_,_,e⟩ | ⟨_,_,e⟩
  ·injection e with e e2
   subst e;simp only[Rel] at h;obtain⟨g,t,cs,f,_⟩:=h;exact n j (by rintro rfl;exact d _ _ _ f)
  ·cases e
  ·cases e
  ·cases e
  ·cases e
 case ifo m ti j off =>
  refine bC l (fun p e=>?_) rfl h;rcases e with⟨off,e⟩ | e | e | ⟨_,_,_,e⟩ | ⟨_,_,e⟩
  ·cases e
  ·cases e
  ·cases e
  ·injection e with _ _ e
   subst e;simp only[Rel] at h;obtain⟨g,t,cs,f,_⟩:=h;exact n j (by rintro rfl;exact d _ _ _ f)
  ·cases e
 case elr j a b =>
  cases q:Nat.beq j k with
  | true=>simp only[Rel]
  | false=>exact bC l (fun p e=>by
    rcases e with⟨off,e⟩ | e | e | ⟨_,_,_,e⟩ | ⟨_,_,e⟩<;>first | cases e;done | skip
    injection e with e;subst e;exact n j (fP q)) rfl h
 case mpr j =>
  refine bC l (fun p e=>?_) rfl h;rcases e with⟨off,e⟩ | e | e | ⟨_,_,_,e⟩ | ⟨_,_,e⟩
  ·cases e
  ·cases e
  ·injection e with e
   subst e;simp only[Rel] at h;obtain⟨g,cs,f,_⟩:=h;exact n j (by rintro rfl;exact d _ _ _ f)
  ·cases e
  ·cases e
 case slo j a =>
  refine rp l ?_ h;simp only[Rel] at h;obtain⟨g,t,cs,s,f,_⟩:=h;exact n j (by rintro rfl;exact d _ _ _ f)
 case slp=>simp only[Rel]
 all_goals
  exact bC l (fun p e=>by rcases e with⟨off,e⟩ | e | e | ⟨_,_,_,e⟩ | ⟨_,_,e⟩<;>cases e) rfl h
theorem pz {L':Loc}{k:Nat}(d:∀g t cs,L.get k≠some (.box g t cs)) (p:∀j,j≠k->∀o,L.get j=some o->∃o',L'.get j=some o'/\Own.like o o') {F':aD}(n:F.le F') (c:C) (sv:SV) (s:c.leaf=true)
  (h:aQ F L c sv):aQ F' L' (gT k c) sv:=by
 cases c<;>simp only[C.leaf,aaq] at s<;>simp only[gT]
 case rw j =>
  cases r:Nat.beq j k with
  | true=>trivial
  | false=>exact cW n (fun q e=>by
    rcases e with⟨off,e⟩ | ⟨off,e⟩ | e | ⟨a,b,e⟩ | e | ⟨_,_,_,e⟩<;>first | cases e;done | skip
    injection e with e;subst e;exact p j (fP r)) rfl h
 case elr j a b =>
  cases r:Nat.beq j k with
  | true=>trivial
  | false=>exact cW n (fun q e=>by
    rcases e with⟨off,e⟩ | ⟨off,e⟩ | e | ⟨a,b,e⟩ | e | ⟨_,_,_,e⟩<;>first | cases e;done | skip
    injection e with e;subst e;exact p j (fP r)) rfl h
 case own j off =>
  refine cW n (fun q e=>?_) rfl h;obtain⟨_,g,t,cs,l⟩:=h;rcases e with⟨off,e⟩ | ⟨off,e⟩ | e | ⟨a,b,e⟩ | e | ⟨_,_,_,e⟩<;>first | cases e;done | skip
  injection e with e
  subst e;exact p j (by rintro rfl;exact d _ _ _ l)
 case ifo m ti j off =>
  refine cW n (fun q e=>?_) rfl h;obtain⟨v,_,f⟩:=h;simp only[Rel] at f;obtain⟨g,t,cs,l,_⟩:=f;rcases e with⟨off,e⟩ | ⟨off,e⟩ | e | ⟨a,b,e⟩ | e | ⟨_,_,_,e⟩<;>first | cases e;done | skip
  injection e with _ _ e
  subst e;exact p j (by rintro rfl;exact d _ _ _ l)
 case ownv j off =>
  refine cW n (fun q e=>?_) rfl h;obtain⟨v,_,f⟩:=h;simp only[Rel] at f;obtain⟨g,t,cs,l,_⟩:=f;rcases e with⟨off,e⟩ | ⟨off,e⟩ | e | ⟨a,b,e⟩ | e | ⟨_,_,_,e⟩<;>first | cases e;done | skip
  injection e with e
  subst e;exact p j (by rintro rfl;exact d _ _ _ l)
 case mpr j =>
  refine cW n (fun q e=>?_) rfl h;obtain⟨v,_,f⟩:=h;simp only[Rel] at f;obtain⟨g,cs,l,_⟩:=f;rcases e with⟨off,e⟩ | ⟨off,e⟩ | e | ⟨a,b,e⟩ | e | ⟨_,_,_,e⟩<;>first | cases e;done | skip
  injection e with e
  subst e;exact p j (by rintro rfl;exact d _ _ _ l)
 case slo j a =>
  refine tM n ?_ h;obtain⟨v,_,f⟩:=h;simp only[Rel] at f;obtain⟨g,t,cs,u,l,_⟩:=f;exact p j (by rintro rfl;exact d _ _ _ l)
 case slp=>trivial
 all_goals
  exact cW n (fun q e=>by rcases e with⟨off,e⟩ | ⟨off,e⟩ | e | ⟨a,b,e⟩ | e | ⟨_,_,_,e⟩<;>cases e) rfl h
theorem di.ZU {L':Loc}{k:Nat}(a:∀g t cs,L.get k≠some (.box g t cs)) (f:∀j,j≠k->∀o,L.get j=some o->∃o',L'.get j=some o'/\Own.like o o') {F':aD}(b:F.le F'):∀{o:TO}{p:Own},di F L o p->di F' L' (o.ZC (C.kill k)) p
 | .box t cs,.box g d vs,r=>⟨r.1,r.2.map fun c _ v h=>Rel.mp (kR a f b) 3 h⟩
 | .row t sz els,.row v d l n xs,r=>⟨r.1,r.2.1,r.2.2.1,r.2.2.2.1,r.2.2.2.2.mono b⟩
 | .box _ _,.row ..,r=>r.elim
 | .row ..,.box ..,r=>r.elim
 | .map _,.row ..,r=>r.elim
 | .map es,.box g d vs,r=>⟨r.1,r.2.mono b⟩
 | .win ..,.row ..,r=>r.elim
 | .win ..,.box ..,⟨w,v1,s,v3,e,m,q,u⟩=>⟨w,v1,s,v3,e,m.mono b,q.map fun c _ v h=>Rel.mp (kR a f b) 3 h,u.mono b⟩
theorem TS.ZU (b:TS G F L ρ M τ) {k:Nat}{o':Own}(a:∀g t cs,L.get k≠some (.box g t cs)) {to:TO}(l:di F (L.set k o') to o') :
  TS G F (L.set k o') ρ ((M.ZC (C.kill k)).set k to) (fun j=>(τ j).kill k):=by
 have f:∀j,j≠k->∀o,L.get j=some o->∃p,(L.set k o').get j=some p/\Own.like o p:=fun j n o e=>⟨o,by rw[Loc.Zz,vz n];exact e,Own.ZD o⟩;refine⟨fun j=>?_,fun j=>aQ.mp (kR a f (aD.le_refl F)) (pz a f (aD.le_refl F)) 3 (b.env j),fun j g t e=>?_,b.glob⟩
 ·rw[TL.Zz,Loc.Zz,qE];split
  ·exact l
  ·rcases eK (b.tl j) with⟨d,c⟩ | ⟨p,q,d,c,m⟩
   ·rw[d,c];trivial
   ·rw[d,c];exact m.ZU a f (aD.le_refl F)
 ·obtain⟨cs,h⟩:=b.kp j g t e;exact⟨cs,by rw[Loc.Zz,vz (by rintro rfl;exact a _ _ _ h)];exact h⟩
theorem iZ {a:Option Addr}{sz b:Nat}{els:List (List C)}(h:gF F a b 0 els) (x:∀es∈els,es.length=sz):∃xs,xs.length=els.length*sz/\(bV F a 0 xs\/(els.length=0/\xs=[]))/\aO F sz els xs:=by
 cases f:els with
 | nil=>exact⟨[],by simp,.inr ⟨rfl,rfl⟩,by simp only[aO]⟩
 | cons s k =>
  rw[f] at h x;have h0:=mW.1 h 0 s (by simp);obtain⟨al,k1,⟨d,m,t,y,ea,hb,p,_⟩,_,k4⟩:=h0;have o:b=sz:=by rw[<-k1,k4.len,x s (by simp)]
  subst o;subst ea;have key:∀(l:List (List C)) (i:Nat),gF F (some d) b i l->∃xs,aO F b l xs/\∀(j:Nat) v,xs[j]?=some v->m[d.off+i*b+j]?=some v/\oP y (d.off+i*b+j):=by
   intro l
   induction l with
   | nil=>intro i _;exact⟨[],by simp only[aO],by simp⟩
   | cons es l ih =>
    intro i hr;simp only[gF] at hr;obtain⟨⟨vs,w,⟨ax,ab,t',aw,u,c,z,hv⟩,q3,q4⟩,q5⟩:=hr;injection u with u
    subst u;rw[hb] at c;injection c with c
    injection c with r1 r2 r3
    subst r1 r3;obtain⟨xs,n,r⟩:=ih (i+1) q5;refine⟨vs++xs,by simp only[aO];exact⟨vs,xs,rfl,w,q3,q4,n⟩,fun j v e=>?_⟩
    by_cases q:j<vs.length
    ·rw[aap q] at e;exact hv j v e
    ·rw[aaw (by omega)] at e;have:=r _ _ e;rw[show d.off+i*b+j=d.off+(i+1)*b+(j-vs.length) by rw[w,Nat.add_mul];omega];exact this
  obtain⟨xs,n,r⟩:=key (s::k) 0 h;exact⟨xs,iN n,.inl ⟨d,m,t,y,rfl,hb,p,fun j v e=>by have:=r j v e;simpa using this⟩,n⟩
theorem aO.ones {sz:Nat}:∀{l:List (List C)}{xs:List Value},aO F sz l xs->∀u∈xs,u.oneCell'=true
 | [],xs,h=>by simp only[aO] at h;subst h;simp
 | es::l,xs,h=>by
  simp only[aO] at h;obtain⟨vs,c,rfl,f,d,e,b⟩:=h;intro u a;rcases aah.1 a with a | a
  ·exact gq e d u a
  ·exact aO.ones b u a
theorem mr (bs:List UInt8):aO F 1 (af bs) (bs.map fun b=>Value.int .u8 b.toNat):=by
 induction bs with
 | nil=>simp only[af,abb,aO]
 | cons b bs a =>
  simp only[af,aao,aO];refine⟨[.int .u8 b.toNat],_,rfl,rfl,rfl,?_,a⟩;simp only[aF,Rel];refine⟨_,_,rfl,⟨rfl,?_⟩,rfl⟩;have:=b.toNat_lt;simp[Lit.wf,IntKind.min,IntKind.max,IntKind.bits,IntKind.signed];omega
theorem DM {g:Nat}{bs:List UInt8}(h:bV F (some ⟨g,0,none⟩) 0 (bs.map fun b=>Value.int .u8 b.toNat)):gF F (some ⟨g,0,none⟩) 1 0 (af bs):=(mr bs).frz h
theorem aO.set {sz:Nat}:∀{l:List (List C)}{xs:List Value},aO F sz l xs->∀{j:Nat}{es ds:List C}{us:List Value}{off:Nat},l[j]?=some es->off+us.length<=sz->aF F [] ds us->dP ds=true ->
  aO F sz (l.set j (fE es off ds)) (aP xs (j*sz+off) us)
 | [],xs,h,j,es,ds,us,off,e,_,_,_=>by simp at e
 | x::l,xs,h,j,es,ds,us,off,e,p,n,d=>by
  simp only[aO] at h;obtain⟨vs,f,rfl,o,b,k,m⟩:=h;cases j with
  | zero =>
   simp only[aat,yo] at e;subst e;simp only[List.set_cons_zero,aO];refine⟨aP vs off us,f,?_,?_,?_,gG k n,m⟩
   ·simp only[aP,Nat.zero_mul,Nat.zero_add];rw[List.take_append_of_le_length (by omega),List.drop_append_of_le_length (by omega)];simp
   ·simp only[aP,aak,aaC,aa2];omega
   ·rw[iX] at b d ⊢;intro c a;simp only[fE,aah] at a;rcases a with(a | a) | a
    ·exact b c (List.mem_of_mem_take a)
    ·exact d c a
    ·exact b c (List.mem_of_mem_drop a)
  | succ j =>
   simp only[List.set_cons_succ,aO];have q:=aO.set m (j:=j) (by simpa using e) p n d;refine⟨vs,_,?_,o,b,k,q⟩;simp only[aP];rw[show(j+1)*sz+off=vs.length+(j*sz+off) by rw[o,Nat.add_mul];omega];rw[List.take_length_add_append,show vs.length+(j*sz+off)+us.length=vs.length+(j*sz+off+us.length) by omega,List.drop_length_add_append];simp[aan]
end
section
variable {P:Program}{G:Nat->Option (Nat×TypeId)}{F:aD}{L:Loc}{ρ:Env}{M:TL}{τ:aX}
def Both (G:Nat->Option (Nat×TypeId)) (K:TK):cS:=fun F L ρ=>∃M τ,TS G F L ρ M τ/\K M τ
theorem nI {k:Nat}{a:Option Addr}{c n:Nat}{t sz:Nat}{xs:List Value}(h:L.get k=some (.row (.slice a n c) t sz n xs)):aQ F L (.rw k) (.v (.slice a n c)) :=
 ⟨_,rfl,by simp only[Rel];exact⟨a,c,t,sz,n,xs,rfl,h⟩⟩
theorem Pg {g:Nat}{F':aD}{t:TypeId}{cs:List C}{vs:List Value}(b:F' g=some (.cells vs.toArray t (0,0))) (c:dP cs=true) (a:aF F' [] cs vs):aQ F' L (.pt cs 0) (.v (.pointer (some ⟨g,0,none⟩))) :=
 ⟨g,0,0,vs,.inl ⟨rfl,rfl⟩,⟨0,_,t,(0,0),b,rfl,fun i v hi=>⟨by simpa using hi,tj _⟩⟩,c,a⟩
theorem jF (b:∀j,aQ F L (τ j) (ρ j)) {sz:Nat}:∀{xs:List X},qy τ sz xs=true->fN L ρ sz xs=true/\aO F sz (uH τ xs) (cellsOf L ρ xs)/\(uH τ xs).length=xs.length
 | [],_=>⟨rfl,by simp only[uH,cellsOf,aO],rfl⟩
 | x::xs,h=>by
  simp only[qy] at h;split at h
  case h_2=>cases h
  rename_i n k f l;obtain⟨d,m,e⟩:=jF b h;have c:=dY b n;have a:(aJ (val L ρ x)).length=sz:=by rw[c.len];exact bD k
  refine⟨by simp only[fN,dw a];exact d,?_,by simp only[uH,aau,e]⟩;simp only[uH,cellsOf,aO];exact⟨_,_,rfl,a,m8 f,j5 (eS l c),m⟩
theorem AU {t:Nat}(h:KF t=true):t<1048576/\t≠0:=by
 unfold KF at h;split at h
 ·cases h
 ·rename_i a;have:=aav h;exact⟨by omega,fun e=>by subst e;simp at a⟩
theorem EM {t:TypeId}{x:X}{k:Nat}{K:TK}(f:TS G F L ρ M τ) (m:M.get k=none) (l:(cn τ x).okc=true) (d:t<1048576/\t≠0) (h:K (M.set k (.box t (cg (cn τ x)))) (bE (some k) (.own k 0) τ)) (g:Nat) :
  Both G K F (L.set k (.box g t (aJ (val L ρ x)))) (put (some k) (.own k 0) ρ):=by
 have b:=cj f.tl m;have a:Ext L (L.set k (.box g t (aJ (val L ρ x)))):=by
  intro j p e;refine⟨p,?_,Own.ZD p⟩;rw[Loc.Zz,vz (by rintro rfl;rw[b] at e;cases e)];exact e
 have n:=f.new (aD.le_refl F) b (o:=.box g t (aJ (val L ρ x))) (to:=.box t (cg (cn τ x))) ⟨⟨d.1,.inl rfl,d.2⟩,(dY f.env l).ext (aD.le_refl F) a⟩;exact⟨_,_,n.put (c:=.own k 0) (sv:=.own k 0) ⟨rfl,g,t,_,by rw[Loc.Zz,o6 rfl]⟩ (some k),h⟩
theorem zG {t:TypeId}{zs:List Value}{k:Nat}{K:TK}(d:TS G F L ρ M τ) (e:M.get k=none) (a:t<1048576/\t≠0) (h:K (M.set k (.box t (zs.map rU))) (bE (some k) (.own k 0) τ)) (g:Nat) :
  Both G K F (L.set k (.box g t zs)) (put (some k) (.own k 0) ρ):=by
 have b:=cj d.tl e;have f:=d.new (aD.le_refl F) b (o:=.box g t zs) (to:=.box t (zs.map rU)) ⟨⟨a.1,.inl rfl,a.2⟩,lF zs⟩;exact⟨_,_,f.put (c:=.own k 0) (sv:=.own k 0) ⟨rfl,g,t,_,by rw[Loc.Zz,o6 rfl]⟩ (some k),h⟩
theorem EN {e n sz:Nat}{xs:List X}{d:Option Nat}{K:TK}(a:TS G F L ρ M τ) (m:qy τ sz xs=true) (k:xs.length=n) (q:n<=maxLen) (h:K M (bE d (.slx (uH τ xs)) τ)) {g:Nat}{F':aD}(b:F.le F')
  (j:F' g=some (.cells (cellsOf L ρ xs).toArray e (0,0))):Both G K F' L (put d (.v (.slice (some ⟨g,0,none⟩) n n)) ρ):=by
 obtain⟨p,o,f⟩:=jF a.env m;have l:bV F' (some ⟨g,0,none⟩) 0 (cellsOf L ρ xs):=⟨_,_,_,_,rfl,j,rfl,fun i v hi=>⟨by simpa using hi,tj _⟩⟩;refine⟨_,_,(a.mono b).put (c:=.slx (uH τ xs)) ⟨_,rfl,?_⟩ d,h⟩;simp only[Rel];exact⟨⟨g,0,none⟩,by rw[f,k],by omega,sz,(o.mono b).frz l⟩
theorem xq (d:∀j,aQ F L (τ j) (ρ j)) {k g:Nat}{t:TypeId}{cs:List Value}(f:L.get k=some (.box g t cs)):∀{xs:List X}{a:List Nat},vn k τ xs=some a ->
  fN L ρ 1 xs=true/\cellsOf L ρ xs=a.map (fun o=>.pointer (some ⟨g,o,none⟩))/\a.length=xs.length
 | [],a,h=>by
  simp only[vn,yo] at h;subst h;exact⟨rfl,rfl,rfl⟩
 | x::xs,a,h=>by
  simp only[vn] at h;split at h
  case h_2=>cases h
  rename_i j off l q r;split at h
  case h_2=>cases h
  rename_i s;obtain rfl:=xo s;injection h with h
  subst h;obtain⟨p,u,m⟩:=xq d f r;have c:=tP d x;rw[q] at c;simp only[Rel] at c;obtain⟨w,v,cs',b,n⟩:=c;rw[f] at b;injection b with b
  injection b with q1 q2 q3
  subst q1;have e:aJ (val L ρ x)=[.pointer (some ⟨g,off,none⟩)]:=by rw[n];rfl
  exact⟨by simp only[fN,e,fM];exact p,by simp only[cellsOf,e,u];rfl,by simp[m]⟩
theorem EO {e n k:Nat}{b:List Nat}{xs:List X}{d:Option Nat}{K:TK}(q:TS G F L ρ M τ) (f:vn k τ xs=some b) (p:xs≠[]) (s:xs.length=n) (hm:n<=maxLen) (h:K M (bE d (.slo k b) τ)) :
  fN L ρ 1 xs=true/\∀{g:Nat}{F':aD},F.le F'->F' g=some (.cells (cellsOf L ρ xs).toArray e (0,0))->Both G K F' L (put d (.v (.slice (some ⟨g,0,none⟩) n n)) ρ):=by
 obtain⟨x,a,rfl⟩:∃x a,xs=x::a:=by
  cases xs with
  | nil=>exact vv rfl p
  | cons x a=>exact⟨x,a,rfl⟩
 have m:∃g t cs,L.get k=some (.box g t cs):=by
  have f:=f;simp only[vn] at f;split at f
  case h_2=>cases f
  rename_i j off l hx hl;split at f
  case h_2=>cases f
  rename_i hj;obtain rfl:=xo hj;have o:=tP q.env x;rw[hx] at o;simp only[Rel] at o;obtain⟨g',z,cs',e1,e2⟩:=o;exact⟨g',z,cs',e1⟩
 obtain⟨w,t,cs,m⟩:=m;obtain⟨k1,k2,r⟩:=xq q.env m f;refine⟨k1,fun{g F'} hF y=>?_⟩;have u:bV F' (some ⟨g,0,none⟩) 0 (cellsOf L ρ (x::a)):=⟨_,_,_,_,rfl,y,rfl,fun i v hi=>⟨by simpa using hi,tj _⟩⟩;refine⟨_,_,(q.mono hF).put (c:=.slo k b) ⟨_,rfl,?_⟩ d,h⟩;simp only[Rel];exact⟨w,t,cs,⟨g,0,none⟩,m,by rw[r,s],by rw[r,s];exact hm,by rw[k2] at u;exact u⟩
theorem LK {e n sz:Nat}{xs:List X}{k:Nat}{K:TK}(b:TS G F L ρ M τ) (j:qy τ sz xs=true) (q:xs.length=n) (f:n<=maxLen) (l:M.get k=none) (h:K (M.set k (.row e sz (uH τ xs))) (bE (some k) (.rw k) τ)) (g:Nat) :
  Both G K F (L.set k (.row (.slice (some ⟨g,0,none⟩) n n) e sz n (cellsOf L ρ xs))) (put (some k) (.v (.slice (some ⟨g,0,none⟩) n n)) ρ):=by
 obtain⟨r,m,d⟩:=jF b.env j;have a:=cj b.tl l;have p:=b.new (aD.le_refl F) a (o:=.row (.slice (some ⟨g,0,none⟩) n n) e sz n (cellsOf L ρ xs)) (to:=.row e sz (uH τ xs)) ⟨rfl,rfl,by rw[d,q],⟨f,_,_,rfl,fun e=>(by cases e)⟩,m⟩;exact⟨_,_,p.put (c:=.rw k) (nI (by rw[Loc.Zz,o6 rfl])) (some k),h⟩
theorem m9 {e sz:Nat}{k:Nat}{els news:List (List C)}{d:Option Nat}{K:TK}(l:TS G F L ρ M τ) {s:Value}{xs ys:List Value}(q:L.get k=some (.row s e sz els.length xs)) (n:aO F sz els xs) (o:aO F sz news ys)
  (p:els.length+news.length<=maxLen) (h:K ((M.ZC (C.kill k)).set k (.row e sz (els++news))) (bE d (.rw k) fun j=>(τ j).kill k)) {v:Value}(b:∃a c,v=.slice a (els.length+news.length) c/\(a=none->els.length+news.length=0)) :
  Both G K F (L.set k (.row v e sz (els.length+news.length) (xs++ys))) (put d (.v v) ρ):=by
 obtain⟨a,c,rfl,f⟩:=b;have m:=l.ZU (k:=k) (o':=.row (.slice a (els.length+news.length) c) e sz (els.length+news.length) (xs++ys)) (to:=.row e sz (els++news)) (fun g t cs e=>by rw[q] at e;injection e with e;cases e)
  ⟨rfl,rfl,by simp,⟨p,a,c,rfl,f⟩,n.append o⟩
 exact⟨_,_,m.put (c:=.rw k) (nI (by rw[Loc.Zz,o6 rfl])) d,h⟩
theorem lH {e sz:Nat}{k:Nat}{news:List (List C)}{d:Option Nat}{K:TK}(b:TS G F L ρ M τ) {ys:List Value}(n:M.get k=none) (m:aO F sz news ys)
  (p:news.length<=maxLen) (h:K (M.set k (.row e sz news)) (bE d (.rw k) τ)) {v:Value}(f:∃a c,v=.slice a (0+news.length) c/\(a=none->0+news.length=0)) :
  Both G K F (L.set k (.row v e sz (0+news.length) ([]++ys))) (put d (.v v) ρ):=by
 obtain⟨a,c,rfl,j⟩:=f;have l:=b.new (aD.le_refl F) (cj b.tl n) (o:=.row (.slice a (0+news.length) c) e sz (0+news.length) ([]++ys)) (to:=.row e sz news) ⟨rfl,rfl,by simp,⟨by omega,a,c,rfl,j⟩,m⟩;exact⟨_,_,l.put (c:=.rw k) (nI (by rw[Loc.Zz,o6 rfl])) d,h⟩
theorem pA {x:X}{k e sz:Nat}{els:List (List C)}(f:TS G F L ρ M τ) (o:cn τ x=.rw k) (q:M.get k=some (.row e sz els)) :
  ∃a c xs,ev ρ x=.v (.slice a els.length c)/\L.get k=some (.row (.slice a els.length c) e sz els.length xs)/\aO F sz els xs/\els.length<=maxLen:=by
 obtain⟨a,c,r,h,n,j,l,d⟩:=sO f.env o;obtain⟨v,xs,b,⟨p,_⟩,m⟩:=kQ f.tl q;rw[d] at b;injection b with b
 injection b with q1 q2 q3 q4 q5
 subst q2 q3 q4 q5;exact⟨a,c,_,l,d,m,p⟩
set_option maxHeartbeats 1000000 in
theorem Ci {e sz b:Nat}{s x:X}{d:Option Nat}{K:TK}(j:TS G F L ρ M τ) (h:Lv e sz b (cn τ s) (cn τ x) d M τ K):∃sv xv,ev ρ s=.v sv/\ev ρ x=.v xv/\Et F L e sz b sv xv fun L1 v=>Both G K F L1 (Fr.put d (.v v) ρ):=by
 have he:=j.env;simp only[Lv,fu] at h;split at h
 ·rename_i k news y m;split at h
  case h_2=>exact h.elim
  rename_i e' bd els n;split at h
  case h_2=>exact h.elim
  rename_i h1 h2;obtain rfl:=xo h1;obtain rfl:=xo h2;obtain⟨g1,l,t,g4⟩:=h;obtain⟨a,c,xs,e1,e2,hr,hm⟩:=pA j y n;obtain⟨r,p,ax,z,e4,e5,e6,e7⟩:=j6 he m;obtain⟨ys,y1,y2,y3⟩:=iZ e7 g1;exact⟨_,_,e1,z,k,els.length,xs,news.length,ys,.inl e2,⟨r,p,rfl,y1,y2.imp id .inl⟩,y3.ones,l,t,fun v hv=>m9 j e2 hr y3 l g4 hv⟩
 ·rename_i news k y m;split at h
  case h_2=>exact h.elim
  rename_i n;obtain⟨g1,l,t,g4⟩:=h;obtain⟨r,p,ax,z,e4,e5,e6,e7⟩:=j6 he m;obtain⟨ys,y1,y2,y3⟩:=iZ e7 g1;simp only[aaQ] at l t;exact⟨_,_,oF he y,z,k,0,[],news.length,ys,.inr (.inl ⟨cj j.tl n,rfl,rfl,rfl⟩),⟨r,p,rfl,y1,y2.imp id .inl⟩,y3.ones,l,t,fun v hv=>lH j n y3 (by omega) g4 hv⟩
 ·rename_i els news k y m;split at h
  case h_2=>exact h.elim
  rename_i n;obtain⟨g0,be,g1,l,t,g4⟩:=h;obtain⟨a,ch,e1,hm,e2⟩:=AP he y;obtain⟨r,p,ax,z,e4,e5,e6,e7⟩:=j6 he m;obtain⟨ys,y1,y2,y3⟩:=iZ e7 g1;obtain⟨xs,x1,x2,x3⟩:=iZ e2 be;refine⟨_,_,e1,z,k,els.length,xs,news.length,ys,.inr (.inr ⟨cj j.tl n,a,rfl,g0,x1,x2⟩),⟨r,p,rfl,y1,y2.imp id .inl⟩,y3.ones,l,t,fun v hv=>?_⟩;obtain⟨av,cv,rfl,hn⟩:=hv;have h1:=j.new (aD.le_refl F) (cj j.tl n) (o:=.row (.slice av (els.length+news.length) cv) e sz (els.length+news.length) (xs++ys)) (to:=.row e sz (els++news)) ⟨rfl,rfl,by simp,⟨l,av,cv,rfl,hn⟩,x3.append y3⟩;exact⟨_,_,h1.put (c:=.rw k) (nI (by rw[Loc.Zz,o6 rfl])) _,g4⟩
 ·rename_i k k' y m;have m:=AO m;split at h
  case h_2=>exact h.elim
  rename_i e' bd els bm ay news n q;split at h
  case h_2=>exact h.elim
  rename_i h1 h2 h3;obtain rfl:=xo h1;obtain rfl:=xo h2;obtain rfl:=xo h3;obtain⟨g1,l,t,g4⟩:=h;obtain⟨a,c,xs,e1,e2,hr,hm⟩:=pA j y n;obtain⟨r,p,ys,z,e4,f,bp⟩:=pA j m q;refine⟨_,_,e1,z,k,els.length,xs,news.length,ys,.inl e2,⟨r,p,rfl,iN f,?_⟩,f.ones,l,t,fun v hv=>m9 j e2 hr f l g4 hv⟩;cases r with
  | some ad=>exact .inr (.inr ⟨k',_,_,_,_,_,ad,p,e4,rfl,rfl,fun i u hu=>hu⟩)
  | none =>
   obtain⟨v,bb,w,⟨_,a2,c2,q2,q3⟩,q4⟩:=kQ j.tl q;rw[e4] at w;injection w with w
   injection w with r1 r2 r3 r4 r5
   rw[<-r1] at q2;injection q2 with q2
   have hz:=q3 q2.symm;have hl:=iN f;refine .inr (.inl ⟨hz,List.length_eq_zero_iff.1 (by rw[hl,hz];simp)⟩)
 ·rename_i k' k y m;have m:=AO m;split at h
  case h_2=>exact h.elim
  rename_i bm ay news n q;split at h
  case h_2=>exact h.elim
  rename_i h3;obtain rfl:=xo h3;obtain⟨g1,l,t,g4⟩:=h;obtain⟨r,p,ys,z,e4,f,bp⟩:=pA j m q;simp only[aaQ] at l t;refine⟨_,_,oF he y,z,k,0,[],news.length,ys,.inr (.inl ⟨cj j.tl n,rfl,rfl,rfl⟩),⟨r,p,rfl,iN f,?_⟩,f.ones,l,t,fun v hv=>lH j n f (by omega) g4 hv⟩;cases r with
  | some ad=>exact .inr (.inr ⟨k',_,_,_,_,_,ad,p,e4,rfl,rfl,fun i u hu=>hu⟩)
  | none =>
   obtain⟨v,bb,w,⟨_,a2,c2,q2,q3⟩,q4⟩:=kQ j.tl q;rw[e4] at w;injection w with w
   injection w with r1 r2 r3 r4 r5
   rw[<-r1] at q2;injection q2 with q2
   have hz:=q3 q2.symm;have hl:=iN f;refine .inr (.inl ⟨hz,List.length_eq_zero_iff.1 (by rw[hl,hz];simp)⟩)
 ·exact h.elim
theorem LL {e sz b:Nat}{zs:List Value}{s x:X}{d:Option Nat}{K:TK}(f:TS G F L ρ M τ) (h:bN P (.app e sz b zs s x) d M τ K):evalOp P (.app e sz b zs s x) d F L ρ (Both G K):=by
 obtain⟨sv,k,a,j,c⟩:=Ci f h;simp only[evalOp,a,j];exact c
theorem Ir {e sz b:Nat}{zs:List Value}{s x:X}{d:Option Nat}{K:TK}(o:TS G F L ρ M τ) (h:bN P (.appX e sz b zs s x) d M τ K):evalOp P (.appX e sz b zs s x) d F L ρ (Both G K):=by
 obtain⟨sv,u,p,j,⟨a,n,xs,m,news,l,r,t,f,k,q⟩⟩:=Ci o h;simp only[evalOp,p,j];exact⟨a,n,xs,m,news,l,r,t,f,k,fun v c _=>q v c⟩
set_option maxHeartbeats 1000000 in
theorem Iu {e sz b:Nat}{zs:List Value}{s x:X}{d:Option Nat}{K:TK}(j:TS G F L ρ M τ) (h:bN P (.appD e sz b zs s x) d M τ K):evalOp P (.appD e sz b zs s x) d F L ρ (Both G K):=by
 have r:=j.env;simp only[bN,fu,eV,dX] at h;simp only[evalOp];split at h
 ·rename_i k news u hx;split at h
  case h_2=>exact h.elim
  rename_i e' ax els m;split at h
  case h_2=>exact h.elim
  rename_i h1 h2;obtain rfl:=xo h1;obtain rfl:=xo h2;obtain⟨g1,l,n,y⟩:=h;obtain⟨a,c,xs,e1,e2,hr,hm⟩:=pA j u m;obtain⟨w,q,t,e3,e4,e5,e6,z⟩:=j6 r hx;obtain⟨ys,y1,y2,f⟩:=iZ z g1;rw[e1,e3];exact⟨k,els.length,xs,news.length,ys,.inl e2,⟨w,q,rfl,y1,y2⟩,f.ones,l,n,fun v p _=>m9 j e2 hr f l y p⟩
 ·rename_i news k u hx;split at h
  case h_2=>exact h.elim
  rename_i m;obtain⟨g1,l,n,y⟩:=h;obtain⟨w,q,t,e3,e4,e5,e6,z⟩:=j6 r hx;obtain⟨ys,y1,y2,f⟩:=iZ z g1;simp only[aaQ] at l n;rw[oF r u,e3];exact⟨k,0,[],news.length,ys,.inr (.inl ⟨rfl,cj j.tl m,rfl,rfl,rfl⟩),⟨w,q,rfl,y1,y2⟩,f.ones,l,n,fun v p _=>lH j m f (by omega) y p⟩
 ·rename_i els news k u hx;split at h
  case h_2=>exact h.elim
  rename_i m;obtain⟨g0,al,g1,l,n,y⟩:=h;obtain⟨a,ay,e1,hm,e2⟩:=AP r u;obtain⟨w,q,t,e3,e4,e5,e6,z⟩:=j6 r hx;obtain⟨ys,y1,y2,f⟩:=iZ z g1;obtain⟨xs,x1,x2,x3⟩:=iZ e2 al;rw[e1,e3];refine⟨k,els.length,xs,news.length,ys,.inr (.inr ⟨rfl,cj j.tl m,a,rfl,g0,x1,x2⟩),⟨w,q,rfl,y1,y2⟩,f.ones,l,n,fun v p _=>?_⟩;obtain⟨av,cv,rfl,hn⟩:=p;have h1:=j.new (aD.le_refl F) (cj j.tl m) (o:=.row (.slice av (els.length+news.length) cv) e sz (els.length+news.length) (xs++ys)) (to:=.row e sz (els++news)) ⟨rfl,rfl,by simp,⟨l,av,cv,rfl,hn⟩,x3.append f⟩;exact⟨_,_,h1.put (c:=.rw k) (nI (by rw[Loc.Zz,o6 rfl])) _,y⟩
 ·exact h.elim
theorem Iv {e:Nat}{s x:X}{d:Option Nat}{K:TK}(l:TS G F L ρ M τ) (h:bN P (.appS e s x) d M τ K):evalOp P (.appS e s x) d F L ρ (Both G K):=by
 have o:=l.env;simp only[bN,fu,eV,dX] at h;simp only[evalOp];split at h
 ·rename_i k t p r;split at h
  case h_2=>exact h.elim
  rename_i e' w els m;split at h
  case h_2=>exact h.elim
  rename_i y h2;obtain rfl:=xo y;obtain rfl:=xo h2;obtain⟨g1,f,j,q⟩:=h;obtain⟨a,c,xs,z,u,hr,hm⟩:=pA l p m;have b:(af t.data.toList).length=t.size:=by simp[af]
  rw[z,(jY o r).1];rw[b] at f j;refine⟨k,els.length,xs,.inl u,f,by simpa using j,fun v n=>?_⟩;have:=m9 (news:=af t.data.toList) (v:=v) l u hr (mr t.data.toList) (by rw[b];exact f) q (by rw[b];exact n);rw[b] at this;exact this
 ·rename_i t k p r;split at h
  case h_2=>exact h.elim
  rename_i m;obtain⟨g1,f,j,q⟩:=h;have b:(af t.data.toList).length=t.size:=by simp[af]
  rw[oF o p,(jY o r).1];rw[b] at f j;simp only[aaQ] at f j;refine⟨k,0,[],.inr ⟨cj l.tl m,rfl,rfl,rfl⟩,f,by simpa using j,fun v n=>?_⟩;have:=lH (news:=af t.data.toList) (v:=v) l m (mr t.data.toList) (by rw[b];omega) q (by rw[b];exact n);rw[b] at this;exact this
 ·exact h.elim
theorem pB {F:aD}(a:IntKind):∀m:Nat,aO F 1 (List.replicate m [C.int a 0]) (List.replicate m (Value.int a 0))
 | 0=>by simp only[List.replicate_zero,aO]
 | m+1=>by
  simp only[aa3,aO];refine⟨[.int a 0],_,rfl,rfl,rfl,?_,pB a m⟩;simp only[aF,Rel];exact⟨_,_,rfl,⟨rfl,by cases a<;>rfl⟩,rfl⟩
theorem Iw {e b:Nat}{l:IntKind}{s x:X}{d:Option Nat}{K:TK}(n:TS G F L ρ M τ) (h:bN P (.appZ e b l s x) d M τ K):evalOp P (.appZ e b l s x) d F L ρ (Both G K):=by
 have q:=n.env;simp only[bN,fu,eV,dX] at h;simp only[evalOp];split at h
 ·rename_i k z i r u;split at h
  case h_2=>exact h.elim
  rename_i e' y els o;split at h
  case h_2=>exact h.elim
  rename_i h1 h2;obtain rfl:=xo h1;obtain rfl:=xo h2;obtain⟨m,rfl,g1,f,j,t⟩:=h;obtain⟨a,c,xs,e1,w,hr,hm⟩:=pA n r o;rw[e1,(eX q u).1];rw[aaX] at f j;refine⟨k,els.length,xs,.inl w,f,j,fun v p=>?_⟩;have:=m9 (news:=List.replicate m [C.int l 0]) (v:=v) n w hr (pB l m) (by rw[aaX];exact f) t (by rw[aaX];exact p);rw[aaX] at this;exact this
 ·rename_i z i k r u;split at h
  case h_2=>exact h.elim
  rename_i o;obtain⟨m,rfl,g1,f,j,t⟩:=h;rw[oF q r,(eX q u).1];rw[aaX] at f j;simp only[aaQ] at f j;refine⟨k,0,[],.inr ⟨cj n.tl o,rfl,rfl,rfl⟩,f,j,fun v p=>?_⟩;have:=lH (news:=List.replicate m [C.int l 0]) (v:=v) n o (pB l m) (by rw[aaX];omega) t (by rw[aaX];exact p);rw[aaX] at this;exact this
 ·exact h.elim
theorem Gj {n:Nat}{y x:X}{d:Option Nat}{K:TK}(ht:TS G F L ρ M τ) (h:storeT false n y x d M τ K):evalOp P (.store n y x) d F L ρ (Both G K):=by
 have he:=ht.env;simp only[storeT,fu,eV,dX] at h;simp only[evalOp];split at h
 ·rename_i k off h1 h2 h3 hy;split at h
  case h_3=>exact h.elim
  case h_2 =>
   rename_i t pre cs post hk;rcases h with⟨o,rfl,h⟩ | ⟨pre',be,bm,bl,h⟩
   case inr =>
    obtain⟨g,ty,v1,w,v3,hL,u,z,an,l⟩:=sQ ht.tl hk;have p:=dY he h1;have f:(aJ (val L ρ x)).length=n:=by rw[p.len];exact bD h2
    have q:fM (aJ (val L ρ x)) n=true:=dw f;have ho:=kZ (gq p h3);rw[q,ho,(fo he hy).1];simp only[hL];have ay:off+n<=v1.length:=by rw[u.len];exact be
    have s:(((v1++(w++v3)).drop off).take n).length=n:=by
     simp;omega
    rw[f8 l.2.2 (dw s)];have ao:aP (v1++(w++v3)) off (aJ (val L ρ x))=aP v1 off (aJ (val L ρ x))++(w++v3):=by
     simp only[aP];rw[List.take_append_of_le_length (by omega),f,List.drop_append_of_le_length ay];simp
    have bi:aF F [] pre' (aP v1 off (aJ (val L ρ x))):=by rw[<-bl];exact gG u (eS bm p)
    have h4:=ht.turn (o':=.box g ty (aP (v1++(w++v3)) off (aJ (val L ρ x)))) (to:=.win t pre' cs post) hL ⟨rfl,rfl⟩ (fun g' t' cs' e=>by injection e with a b c;subst a b;exact⟨_,rfl⟩)
     (fun L' hx=>⟨l,_,w,v3,ao,bi,z.ext (aD.le_refl F) hx,an⟩)
    exact⟨_,_,h4.put (c:=.und) (sv:=.v undef) ⟨_,rfl,by simp only[Rel]⟩ d,h⟩
   split at h
   case h_2=>exact h.elim
   rename_i hl;obtain⟨g,ty,v1,w,v3,hL,u,z,an,l⟩:=sQ ht.tl hk;have p:=dY he h1;have f:(aJ (val L ρ x)).length=n:=by rw[p.len];exact bD h2
   have q:fM (aJ (val L ρ x)) n=true:=dw f;have ho:=kZ (gq p h3);rw[q,ho,(fo he hy).1];simp only[hL];have al:=(z.drop o).take n;have ab:((w.drop o).take n).length=n:=by rw[al.len];exact bD hl
   have s:(((v1++(w++v3)).drop (pre.length+o)).take n).length=n:=by
    rw[<-u.len];simp at ab ⊢;omega
   rw[f8 l.2.2 (dw s)];have ao:aP (v1++(w++v3)) (pre.length+o) (aJ (val L ρ x))=v1++(aP w o (aJ (val L ρ x))++v3):=by
    by_cases bv:n=0
    ·have:aJ (val L ρ x)=[]:=aaG (by omega);rw[this];simp[aP]
    have hn:o+n<=w.length:=by simp at ab;omega
    simp only[aP];rw[<-u.len,List.take_append,aaZ (by omega),show v1.length+o-v1.length=o by omega,List.take_append_of_le_length (by omega),f,Nat.add_assoc,List.drop_append,List.drop_eq_nil_of_le (by omega),show v1.length+(o+n)-v1.length=o+n by omega,List.drop_append_of_le_length hn];simp
   have h4:=ht.turn (o':=.box g ty (aP (v1++(w++v3)) (pre.length+o) (aJ (val L ρ x)))) (to:=.win t pre (fE cs o (cg (cn τ x))) post) hL ⟨rfl,rfl⟩ (fun g' t' cs' e=>by injection e with a b c;subst a b;exact⟨_,rfl⟩)
    (fun L' hx=>⟨l,v1,_,v3,ao,u,(gG z p).ext (aD.le_refl F) hx,an⟩)
   exact⟨_,_,h4.put (c:=.und) (sv:=.v undef) ⟨_,rfl,by simp only[Rel]⟩ d,h⟩
  rename_i t cs hk;split at h
  case h_2=>exact h.elim
  rename_i hl;obtain⟨g,ty,vs,hL,z,l⟩:=kP ht.tl hk;have p:=dY he h1;have q:fM (aJ (val L ρ x)) n=true:=dw (by rw[p.len];exact bD h2);have ho:=kZ (gq p h3);rw[q,ho,(fo he hy).1];simp only[hL];have al:=(z.drop off).take n;rw[f8 l.2.2 (dw (by rw[al.len];exact bD hl))];have h4:=ht.turn (o':=.box g ty (aP vs off (aJ (val L ρ x)))) (to:=.box t (fE cs off (cg (cn τ x)))) hL ⟨rfl,rfl⟩ (fun g' t' cs' e=>by injection e with a b c;subst a b;exact⟨_,rfl⟩)
   (fun L' hx=>⟨l,(gG z p).ext (aD.le_refl F) hx⟩)
  exact⟨_,_,h4.put (c:=.und) (sv:=.v undef) ⟨_,rfl,by simp only[Rel]⟩ d,h⟩
 ·rename_i k j off h1 h2 h3 hy;split at h
  case h_2=>exact h.elim
  rename_i t sz els h0 hk hp;obtain⟨r0,es,r1,r2,r3⟩:=h;obtain⟨ad,t',r,m,c,bj,e1,e2⟩:=tO he hy;obtain⟨v,xs,e3,⟨hm,q6⟩,z⟩:=kQ ht.tl hk;rw[e2] at e3;injection e3 with e3
  injection e3 with q1 q2 q3 q4 q5
  subst q1 q2 q3 q4 q5;have p:=dY he h1;have f:(aJ (val L ρ x)).length=n:=by rw[p.len];exact bD h2
  have q:fM (aJ (val L ρ x)) n=true:=dw f;have ho:=kZ (gq p h3);rw[q,ho,e1];have cd:es.length=r:=by
   obtain⟨us,u1,_,u3,_⟩:=z.at r1;rw[<-u1,u3.len]
  have hn:off+n<=r:=aav r0;have ax:=z.set (ds:=(cg (cn τ x)).map C.can) (us:=aJ (val L ρ x)) (off:=off) r1 (by rw[f];exact hn) (j5 (eS hp p)) (m8 h3);have aw:j<els.length:=(aai.1 r1).1;have bk:=iN z;have h4:=ht.turn (o':=.row (.slice (some ad) els.length c) t' r els.length (aP bj (j*r+off) (aJ (val L ρ x)))) (to:=.row t' r (els.set j (fE es off ((cg (cn τ x)).map C.can)))) e2 ⟨rfl,rfl,rfl⟩
   (fun g' ca cs' e=>by cases e) (fun L' hx=>⟨rfl,rfl,by simp,⟨hm,_,_,rfl,fun e=>(by cases e)⟩,ax⟩)
  refine⟨.inl ⟨k,_,_,_,_,_,ad,c,e2,rfl,rfl,?_,gq p h3,_,_,h4.put (c:=.und) (sv:=.v undef) ⟨_,rfl,by simp only[Rel]⟩ d,r3 es r1⟩⟩;rw[bk,f];have:(j+1)*r<=els.length*r:=Nat.mul_le_mul_right _ aw;rw[Nat.add_mul] at this;omega
 ·exact h.elim
theorem DN {n:Nat}{y x:X}{d:Option Nat}{K:TK}(o:TS G F L ρ M τ) (h:DH n y x d M τ K):evalOp P (.store n y x) d F L ρ (Both G K):=by
 have r:=o.env;unfold DH at h;split at h
 ·rename_i es off b hy hx;split at h
  case h_2=>exact h.elim
  rename_i t;obtain rfl:=xo t;obtain⟨s,h2⟩:=h;obtain⟨b',q,j,vs,m,hp,ho,hr⟩:=py r hy;have ex:=iO r hx;have f:vs[off]?=some (.bool b):=by
   obtain⟨r1,r2⟩:=jU.1 hr;have a:off<vs.length:=by rw[r1];exact(aai.1 s).1
   have:=r2 off _ _ s (aag a);simp only[Rel] at this;rw[aag a,this]
  have l:bV F (some ⟨b',q,none⟩) j [.bool b]:=by
   have:=j4 (n:=1) (es:=es) hp;have e:(vs.drop off).take 1=[.bool b]:=by
    have a:off<vs.length:=(aai.1 f).1;rw[aa7 a];rw[aag a] at f;injection f with f
    rw[f];rfl
   rwa [e] at this
  have p:Both G K F L (Fr.put d (.v undef) ρ):=⟨_,_,o.put (c:=.und) (sv:=.v undef) ⟨_,rfl,by simp only[Rel]⟩ d,h2⟩;have k:∀u∈[Value.bool b],u.oneCell'=true:=fun u z=>by rw[aaW.1 z];rfl
  have w:aJ (val L ρ x)=[.bool b]:=by simp only[val,ex,conc,aJ]
  have e3:fM [Value.bool b] 1=true:=rfl;have e4:jA [Value.bool b]=true:=rfl;simp only[evalOp,w,e3,e4];rcases m with⟨m,rfl⟩ | m
  ·rw[m];exact⟨.inr ⟨l,k,p⟩⟩
  ·rw[m];exact⟨.inr ⟨l,k,p⟩⟩
 ·exact Gj o h
theorem DP {n:Nat}{y x:X}{d:Option Nat}{K:TK}(ht:TS G F L ρ M τ) (h:storeT false n y x d M τ K):evalOp P (.storeX n y x) d F L ρ (Both G K):=by
 have he:=ht.env;simp only[storeT,fu,eV,dX] at h;simp only[evalOp];split at h
 ·rename_i k off h1 h2 h3 hy;split at h
  case h_3=>exact h.elim
  case h_2 =>
   rename_i t pre cs post hk;rcases h with⟨o,rfl,h⟩ | ⟨pre',be,bm,bl,h⟩
   case inr =>
    obtain⟨g,ty,v1,w,v3,hL,u,z,an,l⟩:=sQ ht.tl hk;have p:=dY he h1;have f:(aJ (val L ρ x)).length=n:=by rw[p.len];exact bD h2
    have q:fM (aJ (val L ρ x)) n=true:=dw f;have ho:=kZ (gq p h3);rw[q,ho,(fo he hy).1];simp only[hL];have ay:off+n<=v1.length:=by rw[u.len];exact be
    have s:(((v1++(w++v3)).drop off).take n).length=n:=by
     simp;omega
    rw[f8 l.2.2 (dw s)];have ao:aP (v1++(w++v3)) off (aJ (val L ρ x))=aP v1 off (aJ (val L ρ x))++(w++v3):=by
     simp only[aP];rw[List.take_append_of_le_length (by omega),f,List.drop_append_of_le_length ay];simp
    have bi:aF F [] pre' (aP v1 off (aJ (val L ρ x))):=by rw[<-bl];exact gG u (eS bm p)
    have h4:=ht.turn (o':=.box g ty (aP (v1++(w++v3)) off (aJ (val L ρ x)))) (to:=.win t pre' cs post) hL ⟨rfl,rfl⟩ (fun g' t' cs' e=>by injection e with a b c;subst a b;exact⟨_,rfl⟩)
     (fun L' hx=>⟨l,_,w,v3,ao,bi,z.ext (aD.le_refl F) hx,an⟩)
    exact fun _=>⟨_,_,h4.put (c:=.und) (sv:=.v undef) ⟨_,rfl,by simp only[Rel]⟩ d,h⟩
   split at h
   case h_2=>exact h.elim
   rename_i hl;obtain⟨g,ty,v1,w,v3,hL,u,z,an,l⟩:=sQ ht.tl hk;have p:=dY he h1;have f:(aJ (val L ρ x)).length=n:=by rw[p.len];exact bD h2
   have q:fM (aJ (val L ρ x)) n=true:=dw f;have ho:=kZ (gq p h3);rw[q,ho,(fo he hy).1];simp only[hL];have al:=(z.drop o).take n;have ab:((w.drop o).take n).length=n:=by rw[al.len];exact bD hl
   have s:(((v1++(w++v3)).drop (pre.length+o)).take n).length=n:=by
    rw[<-u.len];simp at ab ⊢;omega
   rw[f8 l.2.2 (dw s)];have ao:aP (v1++(w++v3)) (pre.length+o) (aJ (val L ρ x))=v1++(aP w o (aJ (val L ρ x))++v3):=by
    by_cases bv:n=0
    ·have:aJ (val L ρ x)=[]:=aaG (by omega);rw[this];simp[aP]
    have hn:o+n<=w.length:=by simp at ab;omega
    simp only[aP];rw[<-u.len,List.take_append,aaZ (by omega),show v1.length+o-v1.length=o by omega,List.take_append_of_le_length (by omega),f,Nat.add_assoc,List.drop_append,List.drop_eq_nil_of_le (by omega),show v1.length+(o+n)-v1.length=o+n by omega,List.drop_append_of_le_length hn];simp
   have h4:=ht.turn (o':=.box g ty (aP (v1++(w++v3)) (pre.length+o) (aJ (val L ρ x)))) (to:=.win t pre (fE cs o (cg (cn τ x))) post) hL ⟨rfl,rfl⟩ (fun g' t' cs' e=>by injection e with a b c;subst a b;exact⟨_,rfl⟩)
    (fun L' hx=>⟨l,v1,_,v3,ao,u,(gG z p).ext (aD.le_refl F) hx,an⟩)
   exact fun _=>⟨_,_,h4.put (c:=.und) (sv:=.v undef) ⟨_,rfl,by simp only[Rel]⟩ d,h⟩
  rename_i t cs hk;split at h
  case h_2=>exact h.elim
  rename_i hl;obtain⟨g,ty,vs,hL,z,l⟩:=kP ht.tl hk;have p:=dY he h1;have q:fM (aJ (val L ρ x)) n=true:=dw (by rw[p.len];exact bD h2);have ho:=kZ (gq p h3);rw[q,ho,(fo he hy).1];simp only[hL];have al:=(z.drop off).take n;rw[f8 l.2.2 (dw (by rw[al.len];exact bD hl))];have h4:=ht.turn (o':=.box g ty (aP vs off (aJ (val L ρ x)))) (to:=.box t (fE cs off (cg (cn τ x)))) hL ⟨rfl,rfl⟩ (fun g' t' cs' e=>by injection e with a b c;subst a b;exact⟨_,rfl⟩)
   (fun L' hx=>⟨l,(gG z p).ext (aD.le_refl F) hx⟩)
  exact fun _=>⟨_,_,h4.put (c:=.und) (sv:=.v undef) ⟨_,rfl,by simp only[Rel]⟩ d,h⟩
 ·rename_i k j off h1 h2 h3 hy;split at h
  case h_2=>exact h.elim
  rename_i t sz els h0 hk hp;obtain⟨r0,es,r1,r2,r3⟩:=h;obtain⟨ad,t',r,m,c,bj,e1,e2⟩:=tO he hy;obtain⟨v,xs,e3,⟨hm,q6⟩,z⟩:=kQ ht.tl hk;rw[e2] at e3;injection e3 with e3
  injection e3 with q1 q2 q3 q4 q5
  subst q1 q2 q3 q4 q5;have p:=dY he h1;have f:(aJ (val L ρ x)).length=n:=by rw[p.len];exact bD h2
  have q:fM (aJ (val L ρ x)) n=true:=dw f;have ho:=kZ (gq p h3);rw[q,ho,e1];have cd:es.length=r:=by
   obtain⟨us,u1,_,u3,_⟩:=z.at r1;rw[<-u1,u3.len]
  have hn:off+n<=r:=aav r0;have ax:=z.set (ds:=(cg (cn τ x)).map C.can) (us:=aJ (val L ρ x)) (off:=off) r1 (by rw[f];exact hn) (j5 (eS hp p)) (m8 h3);have aw:j<els.length:=(aai.1 r1).1;have bk:=iN z;have h4:=ht.turn (o':=.row (.slice (some ad) els.length c) t' r els.length (aP bj (j*r+off) (aJ (val L ρ x)))) (to:=.row t' r (els.set j (fE es off ((cg (cn τ x)).map C.can)))) e2 ⟨rfl,rfl,rfl⟩
   (fun g' ca cs' e=>by cases e) (fun L' hx=>⟨rfl,rfl,by simp,⟨hm,_,_,rfl,fun e=>(by cases e)⟩,ax⟩)
  refine⟨k,_,_,_,_,_,ad,c,e2,rfl,rfl,?_,gq p h3,fun _=>⟨_,_,h4.put (c:=.und) (sv:=.v undef) ⟨_,rfl,by simp only[Rel]⟩ d,r3 es r1⟩⟩;rw[bk,f];have:(j+1)*r<=els.length*r:=Nat.mul_le_mul_right _ aw;rw[Nat.add_mul] at this;omega
 ·exact h.elim
theorem xu {n:Nat}{y x:X}{d:Option Nat}{K:TK}(m:TS G F L ρ M τ) (h:storeT true n y x d M τ K):evalOp P (.storeD n y x) d F L ρ (Both G K):=by
 have p:=m.env;simp only[storeT,fu,eV,dX] at h;simp only[evalOp];split at h
 ·rename_i k off w z h3 hy;split at h
  case h_3=>exact h.elim
  case h_2=>exact h.elim
  rename_i t cs hk;split at h
  case h_2=>exact h.elim
  rename_i hl;obtain⟨g,ty,vs,q,r,f⟩:=kP m.tl hk;have j:=dY p w;have o:fM (aJ (val L ρ x)) n=true:=dw (by rw[j.len];exact bD z);have s:=kZ (gq j h3);rw[o,s,(fo p hy).1];simp only[q];have l:=(r.drop off).take n;rw[f8 f.2.2 (dw (by rw[l.len];exact bD hl))];have u:=m.turn (o':=.box g ty (aP vs off (aJ (val L ρ x)))) (to:=.box t (fE cs off (cg (cn τ x)))) q ⟨rfl,rfl⟩ (fun g' t' cs' e=>by injection e with a b c;subst a b;exact⟨_,rfl⟩)
   (fun L' hx=>⟨f,(gG r j).ext (aD.le_refl F) hx⟩)
  exact⟨_,_,u.put (c:=.und) (sv:=.v undef) ⟨_,rfl,by simp only[Rel]⟩ d,h⟩
 ·exact h.elim
 ·exact h.elim
theorem Gk {e sz b:Nat}{zs:List Value}{l c:X}{d:Option Nat}{K:TK}(j:TS G F L ρ M τ) (h:bN P (.makeS e sz b zs l c) d M τ K):evalOp P (.makeS e sz b zs l c) d F L ρ (Both G K):=by
 have p:=j.env;simp only[bN,fu,eV,dX] at h;simp only[evalOp];split at h
 case h_2=>exact h.elim
 rename_i k1 n k2 m k z t;split at h
 case h_2=>exact h.elim
 rename_i hk v y;rw[(eX p z).1,(eX p t).1];have a:=cj j.tl hk;simp only[a];obtain⟨x,r,w,q,g5⟩:=h;refine⟨x,r,w,q,fun g=>?_⟩;have s:aF F [] ((zs.map rU).map C.can) zs:=j5 (lF zs);have f:∀i:Nat,aO F sz (List.replicate i ((zs.map rU).map C.can)) (List.replicate i zs).flatten:=by
  intro i
  induction i with
  | zero=>simp only[List.replicate_zero,List.flatten_nil,aO]
  | succ i u =>
   simp only[aa3,List.flatten_cons,aO];exact⟨zs,_,rfl,by have:=bD v;simpa using this,m8 y,s,u⟩
 have h3:=j.new (aD.le_refl F) a (o:=.row (.slice (some ⟨g,0,none⟩) n.toNat m.toNat) e sz n.toNat (List.replicate n.toNat zs).flatten) (to:=.row e sz (List.replicate n.toNat ((zs.map rU).map C.can)))
  ⟨rfl,rfl,by simp,⟨aa1 (Int.toNat_le_toNat r) q,_,_,rfl,fun e=>(by cases e)⟩,f _⟩
 exact⟨_,_,h3.put (c:=.rw k) (nI (by rw[Loc.Zz,o6 rfl])) (some k),g5⟩
end
section
variable {P:Program}{G:Nat->Option (Nat×TypeId)}{F:aD}{L:Loc}{ρ:Env}{M:TL}{τ:aX}
theorem AV:∀{ks:List Nat}{i j m:Nat},cD ks i j=some m->∃n,ks[n]?=some j/\m=i+n
 | [],_,_,_,h=>by simp[cD] at h
 | k::ks,i,j,m,h=>by
  simp only[cD] at h;cases a:Nat.beq j k with
  | true =>
   have:=xo a;subst this;rw[a] at h;injection h with h
   exact⟨0,by simp,by omega⟩
  | false =>
   rw[a] at h;obtain⟨n,b,c⟩:=AV h;exact⟨n+1,by simpa using b,by omega⟩
theorem mM {ko:List Nat}{j m:Nat}(h:aZ ko j=some m):1000<=j/\ko[j-1000]?=some m:=by
 simp only[aZ] at h;split at h
 ·rename_i a;exact⟨aav a,h⟩
 ·cases h
theorem cV:∀{l:List Nat},bJ l=true->l.Nodup
 | [],_=>List.nodup_nil
 | k::l,h=>by
  simp only[bJ] at h;split at h
  ·cases h
  ·rename_i a;exact List.nodup_cons.2 ⟨fun b=>(by rw[cT.2 b] at a;cases a),cV h⟩
theorem Iy {L':Loc}{f:Nat->Option Nat}(k:∀j m,f j=some m->∀o,L.get j=some o->L'.get m=some o) (c:C) (v:Value) (q:c.leaf=true) (h:Rel F L c v):Rel F L' (tK f c) v:=by
 cases c<;>simp only[C.leaf,aaq] at q<;>simp only[tK]
 case rw j =>
  simp only[Rel] at h;obtain⟨a,c,t,sz,n,xs,rfl,h⟩:=h;cases d:f j with
  | none=>simp only[Rel]
  | some m=>simp only[Rel];exact⟨a,c,t,sz,n,xs,rfl,k j m d _ h⟩
 case own j off =>
  simp only[Rel] at h;obtain⟨g,t,cs,h,rfl⟩:=h;cases d:f j with
  | none=>simp only[Rel]
  | some m=>simp only[Rel];exact⟨g,t,cs,k j m d _ h,rfl⟩
 case ifo m ti j off =>
  simp only[Rel] at h;obtain⟨g,t,cs,h,rfl⟩:=h;cases d:f j with
  | none=>simp only[Rel]
  | some m=>simp only[Rel];exact⟨g,t,cs,k j m d _ h,rfl⟩
 case mpr j =>
  simp only[Rel] at h;obtain⟨g,cs,h,rfl⟩:=h;cases d:f j with
  | none=>simp only[Rel]
  | some m=>simp only[Rel];exact⟨g,cs,k j m d _ h,rfl⟩
 case ownv=>exact h.elim
 case elr j a b =>
  simp only[Rel] at h;obtain⟨l,t,sz,n,c,xs,rfl,h⟩:=h;cases d:f j with
  | none=>simp only[Rel]
  | some m=>simp only[Rel];exact⟨l,t,sz,n,c,xs,rfl,k j m d _ h⟩
 case slo j a =>
  simp only[Rel] at h;obtain⟨g,t,cs,l,h,r,s,p⟩:=h;cases d:f j with
  | none=>simp only[Rel]
  | some m=>simp only[Rel];exact⟨g,t,cs,l,k j m d _ h,r,s,p⟩
 case slp=>exact h.elim
 all_goals
  exact bC (aD.le_refl F) (fun u e=>by rcases e with⟨off,e⟩ | e | e | ⟨_,_,_,e⟩ | ⟨_,_,e⟩<;>cases e) rfl h
theorem Rel.ren {L':Loc}{f:Nat->Option Nat}(a:∀j m,f j=some m->∀o,L.get j=some o->L'.get m=some o) {c:C}{v:Value}(h:Rel F L c v):Rel F L' (c.ren f) v:=Rel.mp (Iy a) 3 h
theorem di.ren {L':Loc}{f:Nat->Option Nat}(b:∀j m,f j=some m->∀o,L.get j=some o->L'.get m=some o):∀{o:TO}{p:Own},di F L o p->di F L' (o.ZC (C.ren f)) p
 | .box t cs,.box g a vs,r=>⟨r.1,r.2.map fun c _ v h=>h.ren b⟩
 | .row t sz els,.row v a d n xs,r=>r
 | .box _ _,.row ..,r=>r.elim
 | .row ..,.box ..,r=>r.elim
 | .map _,.row ..,r=>r.elim
 | .map es,.box g a vs,r=>r
 | .win ..,.row ..,r=>r.elim
 | .win ..,.box ..,⟨u,v1,q,v3,e,k,l,s⟩=>⟨u,v1,q,v3,e,k,l.map fun c _ v h=>h.ren b,s⟩
theorem qF (e:dm F L M):∀{ks:List Nat}{Lin:List TO},M.sub ks=some Lin->∃Li,L.sub ks=some Li/\Li.length=Lin.length/\∀(i:Nat) o p,Lin[i]?=some o->Li[i]?=some p->di F L o p
 | [],Lin,h=>by simp only[TL.sub,yo] at h;subst h;exact⟨[],rfl,rfl,by simp⟩
 | k::ks,Lin,h=>by
  simp only[TL.sub] at h;split at h
  case h_2=>cases h
  rename_i o l f r;injection h with h
  subst h;obtain⟨Li,n,m,s⟩:=qF e r;rcases eK (e k) with⟨a,j⟩ | ⟨o',p,a,j,q⟩
  ·rw[f] at a;cases a
  ·rw[f] at a;injection a with a
   subst a;refine⟨p::Li,by simp only[Loc.sub,j,n],by simp[m],fun i b c hi d=>?_⟩;cases i with
   | zero=>simp only[aat,yo] at hi d;subst hi;subst d;exact q
   | succ i=>exact s i b c (by simpa using hi) (by simpa using d)
theorem nJ {ks:List Nat}{Li:List Own}(b:L.sub ks=some Li):∀j m,cD ks 1000 j=some m->∀o,L.get j=some o->(inp Li).get m=some o:=by
 intro j m h o a;obtain⟨n,d,rfl⟩:=AV h;obtain⟨_,c⟩:=eW b;rw[aW,o6 (by omega),show 1000+n-1000=n by omega,<-c n j d];exact a
theorem sS (f:dm F L M) {ks:List Nat}{Lin:List TO}{Li:List Own}(e:Li.length=Lin.length) (c:L.sub ks=some Li) (d:∀(i:Nat) o p,Lin[i]?=some o->Li[i]?=some p->di F L o p) :
  dm F (inp Li) (jn (Lin.map (TO.ZC (C.ren (cD ks 1000))))):=by
 intro k;rw[cA,aW];split
 ·rw[aaT];cases b:Lin[k-1000]? with
  | none =>
   have:Li[k-1000]?=none:=by rw[aa4] at b ⊢;omega
   rw[this];trivial
  | some o =>
   have a:k-1000<Li.length:=by have:=(aai.1 b).1;omega
   rw[aag a];exact(d _ _ _ b (aag a)).ren (nJ c)
 ·trivial
def mA (L:Loc) (k:Nat):Loc:=match L.get k with | some (.row ..)=>L.del k | _=>L
def ni:List Nat->Loc->Loc
 | [],L=>L
 | k::ks,L=>ni ks (mA L k)
theorem uN (k:Nat):(∀c v,c.leaf=true->Rel F L c v->Rel F (mA L k) (gT k c) v)/\(∀c sv,c.leaf=true->aQ F L c sv->aQ F (mA L k) (gT k c) sv):=by
 by_cases a:∃v t sz n xs,L.get k=some (.row v t sz n xs)
 ·obtain⟨v,t,sz,n,xs,a⟩:=a;have e:mA L k=L.del k:=by simp only[mA,a]
  rw[e];have b:∀g t cs,L.get k≠some (.box g t cs):=fun g t cs h=>by rw[a] at h;injection h with h;cases h
  have d:∀j,j≠k->∀o,L.get j=some o->∃o',(L.del k).get j=some o'/\Own.like o o':=fun j m o f=>⟨o,by rw[Loc.ZE,vz m];exact f,Own.ZD o⟩;exact⟨kR b d (aD.le_refl F),pz b d (aD.le_refl F)⟩
 ·have e:mA L k=L:=by
   simp only[mA];split
   ·rename_i h;exact vv ⟨_,_,_,_,_,h⟩ a
   ·rfl
  rw[e];refine⟨fun c v l h=>?_,fun c sv l h=>?_⟩
  ·cases c<;>simp only[gT]<;>first
    | exact h
    | exact h.elim
    | (split<;>first | exact h | (simp only[Rel];done))
  ·cases c<;>simp only[gT]<;>first
    | exact h
    | trivial
    | (split<;>first | exact h | trivial)
theorem Rel.kills:∀(ks:List Nat) {L:Loc}{c:C}{v:Value},Rel F L c v->Rel F (ni ks L) (C.kills ks c) v
 | [],L,c,v,h=>h
 | k::ks,L,c,v,h=>Rel.kills ks (Rel.mp (uN k).1 3 h)
theorem aQ.kills:∀(ks:List Nat) {L:Loc}{c:C}{sv:SV},aQ F L c sv->aQ F (ni ks L) (C.kills ks c) sv
 | [],L,c,sv,h=>h
 | k::ks,L,c,sv,h=>aQ.kills ks (aQ.mp (uN k).1 (uN k).2 3 h)
theorem di.kills (ks:List Nat) {L:Loc}:∀{o:TO}{p:Own},di F L o p->di F (ni ks L) (o.ZC (C.kills ks)) p
 | .box t cs,.box g a vs,r=>⟨r.1,r.2.map fun c _ v h=>h.kills ks⟩
 | .row t sz els,.row v a b n xs,r=>r
 | .box _ _,.row ..,r=>r.elim
 | .row ..,.box ..,r=>r.elim
 | .map _,.row ..,r=>r.elim
 | .map es,.box g a vs,r=>r
 | .win ..,.row ..,r=>r.elim
 | .win ..,.box ..,⟨l,v1,j,v3,e,d,f,k⟩=>⟨l,v1,j,v3,e,d,f.map fun c _ v h=>h.kills ks,k⟩
theorem Cj {k j:Nat}{o:Own}(h:(mA L k).get j=some o):L.get j=some o/\(j=k->∃g t cs,o=.box g t cs):=by
 unfold mA at h;split at h
 ·rw[Loc.ZE] at h;split at h
  ·cases h
  ·rename_i a;exact⟨h,fun e=>vv e a⟩
 ·rename_i b;refine⟨h,fun e=>?_⟩;subst e;cases o with
  | box g t cs=>exact⟨g,t,cs,rfl⟩
  | row v t sz n xs=>exact vv h (b v t sz n xs)
theorem pD:∀{ks:List Nat}{L:Loc}{j:Nat}{o:Own},(ni ks L).get j=some o->L.get j=some o/\(j∈ks->∃g t cs,o=.box g t cs)
 | [],L,j,o,h=>⟨h,by simp⟩
 | k::ks,L,j,o,h=>by
  obtain⟨f,c⟩:=pD (ks:=ks) h;obtain⟨b,d⟩:=Cj f;exact⟨b,fun a=>by
   rcases aal.1 a with e | e
   ·exact d e
   ·exact c e⟩
theorem xw (ks:List Nat) (M:TL) (k:Nat):(TL.kills ks M).get k=(M.get k).map (TO.ZC (C.kills ks)):=by
 cases ks with
 | nil =>
  simp only[TL.kills];cases M.get k with
  | none=>rfl
  | some o =>
   cases o with
   | box t cs =>
    have e:(C.kills []:C->C)=id:=rfl;simp[TO.ZC,e]
   | row t sz els=>rfl
   | map es=>rfl
   | win t pre cs post =>
    have e:(C.kills []:C->C)=id:=rfl;simp[TO.ZC,e]
 | cons a ks=>exact qE _ _ _
theorem xD (ks:List Nat) (τ:aX) (j:Nat):fF ks τ j=(τ j).kills ks:=by cases ks<;>rfl
def AW:TO->Bool
 | .row _ _ _=>true
 | _=>false
theorem eZ:∀{Lin:List TO}{ks ko:List Nat},aU Lin ks ko=true->∀(i:Nat) o,Lin[i]?=some o->AW o=false->∃k,ks[i]?=some k/\ko[i]?=some k
 | [],_,_,_,i,o,e,_=>by simp at e
 | .box f d::l,[],ko,h,i,o,e,_=>by cases ko<;>simp[aU] at h
 | .box f d::l,k::ks,[],h,i,o,e,_=>by simp[aU] at h
 | .box f d::l,k::ks,c::ko,h,i,o,e,a=>by
  simp only[aU] at h;split at h
  case h_2=>cases h
  rename_i b;have:=xo b;subst this;cases i with
  | zero=>exact⟨k,by simp,by simp⟩
  | succ i=>simpa using eZ h i o (by simpa using e) a
 | .map es::l,[],ko,h,i,o,e,_=>by cases ko<;>simp[aU] at h
 | .map es::l,k::ks,[],h,i,o,e,_=>by simp[aU] at h
 | .map es::l,k::ks,c::ko,h,i,o,e,a=>by
  simp only[aU] at h;split at h
  case h_2=>cases h
  rename_i b;have:=xo b;subst this;cases i with
  | zero=>exact⟨k,by simp,by simp⟩
  | succ i=>simpa using eZ h i o (by simpa using e) a
 | .win ..::l,[],ko,h,i,o,e,_=>by cases ko<;>simp[aU] at h
 | .win ..::l,k::ks,[],h,i,o,e,_=>by simp[aU] at h
 | .win ..::l,k::ks,c::ko,h,i,o,e,a=>by
  simp only[aU] at h;split at h
  case h_2=>cases h
  rename_i b;have:=xo b;subst this;cases i with
  | zero=>exact⟨k,by simp,by simp⟩
  | succ i=>simpa using eZ h i o (by simpa using e) a
 | .row ..::l,k::ks,c::ko,h,i,o,e,a=>by
  simp only[aU] at h;cases i with
  | zero =>
   simp only[aat,yo] at e;subst e;cases a
  | succ i=>simpa using eZ h i o (by simpa using e) a
 | .row ..::l,k::ks,[],h,i,o,e,a=>by
  simp only[aU] at h;cases i with
  | zero =>
   simp only[aat,yo] at e;subst e;cases a
  | succ i =>
   obtain⟨c,m,j⟩:=eZ h i o (by simpa using e) a;simp at j
 | .row ..::l,[],ko,h,i,o,e,_=>by simp[aU] at h
theorem xE {Lin:List TO}{ks ko:List Nat}(h:aU Lin ks ko=true) (i:Nat) (t:TypeId) (cs:List C) (e:Lin[i]?=some (.box t cs)):∃k,ks[i]?=some k/\ko[i]?=some k:=eZ h i _ e rfl
theorem rq {M:TL}{ks:List Nat}:∀{ko:List Nat},mq M ks ko=true->∀k∈ko,k∈ks\/M.get k=none
 | [],_,k,a=>by simp at a
 | k0::ko,h,k,a=>by
  simp only[mq] at h;rcases aal.1 a with e | e
  ·subst e;split at h
   ·rename_i b;exact .inl (cT.1 b)
   ·rename_i b c;exact .inr c
   ·cases h
  ·split at h
   ·exact rq h k e
   ·exact rq h k e
   ·cases h
theorem cO {ko:List Nat}{Lo:List Own}{L:Loc}(c:ko.Nodup) (e:ko.length=Lo.length) {i k:Nat}{o:Own}(b:ko[i]?=some k) (d:Lo[i]?=some o):(L.puts ko Lo).get k=some o:=by
 rcases dI ko Lo L k c e with⟨_,a⟩ | ⟨h,f,a,_⟩
 ·exact vv (aam b) a
 ·have:=zl c f b;subst this;rw[a,d]
theorem sU {k:Nat}{t sz:Nat}{els:List (List C)}(h:M.get k=some (.row t sz els)):∀{ks:List Nat},k∈ks->k∈rowsOf M ks
 | [],a=>by cases a
 | j::ks,a=>by
  simp only[rowsOf];rcases aal.1 a with rfl | a
  ·rw[h];simp
  ·split
   ·exact aaH _ (sU h a)
   ·exact sU h a
theorem xG {ks:List Nat}{k:Nat}{o:Own}(e:dm F L M) (f:k∈ks) (h:L.get k=some o) (hb:k∈rowsOf M ks->∃g t cs,o=.box g t cs):∃g t cs,o=.box g t cs:=by
 rcases eK (e k) with⟨d,a⟩ | ⟨q,p,d,a,c⟩
 ·rw[h] at a;cases a
 ·rw[h] at a;injection a with a
  subst a;cases q with
  | row t sz els=>exact hb (sU d f)
  | box t cs =>
   cases o with
   | row=>exact c.elim
   | box g b cs'=>exact⟨g,b,cs',rfl⟩
  | map es =>
   cases o with
   | row=>exact c.elim
   | box g b cs'=>exact⟨g,b,cs',rfl⟩
  | win t pre cs post =>
   cases o with
   | row=>exact c.elim
   | box g b cs'=>exact⟨g,b,cs',rfl⟩
theorem ru {f:Nat}{args:List C}{vs:List Value}{ks ko:List Nat}{Lin:List TO}{R:List TO->C->Prop}{K:TL->aX->C->Prop}(ht:TS G F L ρ M τ) (ha:aF F L args vs)
  (h1:M.sub ks=some Lin) (h2:bJ ks=true) (h3:bJ ko=true) (h4:mq M ks ko=true) (h5:aU Lin ks ko=true)
  (h6:CallsT P f (args.map fun c=>c.ZG.ren (cD ks 1000)) (Lin.map (TO.ZC (C.ren (cD ks 1000)))) R)
  (h7:∀v Mo,R Mo v->Wf v->(∀o∈Mo,o.Wf)->ko.length=Mo.length/\K (((M.ZB ks).kills (rowsOf M ks)).puts ko (Mo.map (TO.ZC (C.ren (aZ ko))))) (fF (rowsOf M ks) τ) (v.ren (aZ ko)).slt) :
  dH P f vs F L (fun F' L' v=>∃M' al c,TS G F' L' ρ M' al/\aQ F' L' c (.v v)/\K M' al c):=by
 obtain⟨Li,e1,e2,e3⟩:=qF ht.tl h1;have hn:=cV h2;have l:=cV h3;have an:∀k,k∈ko->k∈ks\/L.get k=none:=fun k q=>(rq h4 k q).imp id fun e=>cj ht.tl e;have bb:=eW e1;refine⟨ks,ko,Li,hO Li R,e1,hn,l,an,h6.out F Li vs (by simp[e2]) (sS ht.tl e2 e1 e3) ?_,?_⟩
 ·exact ha.map fun c _ v hc=>(iP hc).ren (nJ e1)
 ·rintro v F' Lo hF ⟨Mo,c,q1,q2,q3,q4,q5⟩;have aE:∀o∈Mo,o.Wf:=by
   intro o x;obtain⟨i,hi⟩:=aaE.1 x;have d:i<Lo.length:=by rw[<-q1];exact(aai.1 hi).1
   have:=q2 (1000+i);rw[cA,aW,o6 (by omega),o6 (by omega),show 1000+i-1000=i by omega,hi,aag d] at this;exact di.wf this
  obtain⟨k1,k2⟩:=h7 c Mo q5 q3.wf aE;have a:ko.length=Lo.length:=by rw[k1,q1]
  have b:∀k g t cs,k∈ks->L.get k=some (.box g t cs)->∃cs',Loc.get ((L.ZB ks).puts ko Lo) k=some (.box g t cs'):=by
   intro k g t cs q hg;obtain⟨i,hi⟩:=aaE.1 q;have w:Li[i]?=some (.box g t cs):=by rw[<-bb.2 i k hi];exact hg
   have d:i<Lin.length:=by rw[<-e2];exact(aai.1 w).1
   have hr:=e3 i _ _ (aag d) w;cases hL:Lin[i] with
   | row=>rw[hL] at hr;exact hr.elim
   | box t' cs' =>
    obtain⟨k',n,b2⟩:=xE h5 i t' cs' (by rw[aag d,hL]);rw[hi] at n;injection n with n
    subst n;obtain⟨r,s⟩:=q4 i g t cs w;exact⟨r,cO l a b2 s⟩
   | map es =>
    obtain⟨k',n,b2⟩:=eZ h5 i (.map es) (by rw[aag d,hL]) rfl;rw[hi] at n;injection n with n
    subst n;obtain⟨r,s⟩:=q4 i g t cs w;exact⟨r,cO l a b2 s⟩
   | win t0 p0 c0 q0 =>
    obtain⟨k',n,b2⟩:=eZ h5 i (.win t0 p0 c0 q0) (by rw[aag d,hL]) rfl;rw[hi] at n;injection n with n
    subst n;obtain⟨r,s⟩:=q4 i g t cs w;exact⟨r,cO l a b2 s⟩
  refine⟨a,b,?_⟩;generalize z:(L.ZB ks).puts ko Lo=L' at b
  -- what was there before
  have ad:∀k,k∉ks->∀o,L.get k=some o->L'.get k=some o:=by
   intro k q o x;rw[<-z];rcases dI ko Lo (L.ZB ks) k l a with⟨y,a2⟩ | ⟨i,y,a2,a3⟩
   ·rw[y,fR,vz q];exact x
   ·rcases an k (aam y) with e | e
    ·exact vv e q
    ·rw[x] at e;cases e
  have ab:Ext (ni (rowsOf M ks) L) L':=by
   intro k o x;obtain⟨g1,g2⟩:=pD x
   by_cases q:k∈ks
   ·obtain⟨g,t,cs,rfl⟩:=xG ht.tl q g1 g2;obtain⟨cs',h⟩:=b k g t cs q g1;exact⟨_,h,rfl,rfl⟩
   ·exact⟨o,ad k q o g1,Own.ZD o⟩
  have u:∀j m,aZ ko j=some m->∀o,(inp Lo).get j=some o->L'.get m=some o:=by
   intro j m hj o x;obtain⟨y,a2⟩:=mM hj;rw[aW,o6 y] at x;rw[<-z];exact cO l a a2 x
  refine⟨_,_,_,⟨fun k=>?_,fun j=>?_,fun k g t e=>?_,ht.glob.mono hF⟩,jZ (q3.ren u),k2⟩
  ·rcases mL ko (Mo.map (TO.ZC (C.ren (aZ ko)))) ((M.ZB ks).kills (rowsOf M ks)) k l (by simp[k1]) with⟨y,a2⟩ | ⟨i,y,a2,a3⟩
   ·have ae:L'.get k=(L.ZB ks).get k:=by
     rw[<-z];rcases dI ko Lo (L.ZB ks) k l a with⟨n,_⟩ | ⟨i,n,_,_⟩
     ·exact n
     ·exact vv (aam n) a2
    rw[y,ae,xw,oG,fR];split
    ·trivial
    ·rcases eK (ht.tl k) with⟨c1,c2⟩ | ⟨o,p,c1,c2,hr⟩
     ·rw[c1,c2];trivial
     ·rw[c1,c2];exact(hr.kills (rowsOf M ks)).ext hF ab
   ·rw[a2,aaT];have d:i<Mo.length:=by simpa using a3
    have aa:i<Lo.length:=by omega
    have ae:L'.get k=some (Lo[i]):=by rw[<-z];exact cO l a y (aag aa)
    rw[ae,aag d];have:=q2 (1000+i);rw[cA,aW,o6 (by omega),o6 (by omega),show 1000+i-1000=i by omega,aag d,aag aa] at this;exact di.ren u this
  ·rw[xD];exact((ht.env j).kills (rowsOf M ks)).ext hF ab
  ·obtain⟨cs,h⟩:=ht.kp k g t e
   by_cases q:k∈ks
   ·exact b k g t cs q h
   ·exact⟨cs,ad k q _ h⟩
theorem uO {f:Nat}{args:List C}{vs:List Value}{ks:List Nat}{Lin:List TO}{R:List TO->C->Prop}{K:TL->aX->C->Prop}(ht:TS G F L ρ M τ) (ha:aF F L args vs)
  (h1:M.sub ks=some Lin) (h2:bJ ks=true) (h6:AE P f (args.map fun c=>c.ZG.ren (cD ks 1000)) (Lin.map (TO.ZC (C.ren (cD ks 1000)))) R)
  (h7:∀v Mo,R Mo v->Wf v->(∀o∈Mo,o.Wf)->ks.length=Mo.length/\K ((M.ZB ks).puts ks (Mo.map (TO.ZC (C.ren (aZ ks))))) τ (v.ren (aZ ks)).slt) :
  dH P f vs F L (fun F' L' v=>∃M' ad c,TS G F' L' ρ M' ad/\aQ F' L' c (.v v)/\K M' ad c):=by
 obtain⟨Li,e1,e2,e3⟩:=qF ht.tl h1;have u:=cV h2;have ae:=eW e1;refine⟨ks,ks,Li,_,e1,u,u,fun k d=>.inl d,h6.out F Li vs (by simp[e2]) (sS ht.tl e2 e1 e3) ?_,?_⟩
 ·exact ha.map fun c _ v hc=>(iP hc).ren (nJ e1)
 ·rintro v F' Lo hF ⟨⟨Mo,c,q1,q2,q3,q4,q5⟩,bi,av⟩;have ap:∀o∈Mo,o.Wf:=by
   intro o q;obtain⟨i,hi⟩:=aaE.1 q;have r:i<Lo.length:=by rw[<-q1];exact(aai.1 hi).1
   have:=q2 (1000+i);rw[cA,aW,o6 (by omega),o6 (by omega),show 1000+i-1000=i by omega,hi,aag r] at this;exact di.wf this
  obtain⟨k1,k2⟩:=h7 c Mo q5 q3.wf ap;have a:ks.length=Lo.length:=by rw[k1,q1]
  have b:∀k g t cs,k∈ks->L.get k=some (.box g t cs)->∃cs',Loc.get ((L.ZB ks).puts ks Lo) k=some (.box g t cs'):=by
   intro k g t cs d hg;obtain⟨i,hi⟩:=aaE.1 d;have aa:Li[i]?=some (.box g t cs):=by rw[<-ae.2 i k hi];exact hg
   obtain⟨al,am⟩:=q4 i g t cs aa;exact⟨al,cO u a hi am⟩
  refine⟨a,b,?_⟩;generalize n:(L.ZB ks).puts ks Lo=L' at b;have y:∀k,k∉ks->∀o,L.get k=some o->L'.get k=some o:=by
   intro k d o q;rw[<-n];rcases dI ks Lo (L.ZB ks) k u a with⟨s,a2⟩ | ⟨i,s,a2,a3⟩
   ·rw[s,fR,vz d];exact q
   ·exact vv (aam s) d
  have x:Ext L L':=by
   intro k o q
   by_cases d:k∈ks
   ·obtain⟨i,hi⟩:=aaE.1 d;have aa:Li[i]?=some o:=by rw[<-ae.2 i k hi];exact q
    obtain⟨o',h1,h2⟩:=av i o aa;exact⟨o',by rw[<-n];exact cO u a hi h1,h2⟩
   ·exact⟨o,y k d o q,Own.ZD o⟩
  have l:∀j m,aZ ks j=some m->∀o,(inp Lo).get j=some o->L'.get m=some o:=by
   intro j m hj o q;obtain⟨s,a2⟩:=mM hj;rw[aW,o6 s] at q;rw[<-n];exact cO u a a2 q
  refine⟨_,_,_,⟨fun k=>?_,fun j=>(ht.env j).ext hF x,fun k g t e=>?_,ht.glob.mono hF⟩,jZ (q3.ren l),k2⟩
  ·rcases mL ks (Mo.map (TO.ZC (C.ren (aZ ks)))) (M.ZB ks) k u (by simp[k1]) with⟨s,a2⟩ | ⟨i,s,a2,a3⟩
   ·have z:L'.get k=(L.ZB ks).get k:=by
     rw[<-n];rcases dI ks Lo (L.ZB ks) k u a with⟨b1,_⟩ | ⟨i,b1,_,_⟩
     ·exact b1
     ·exact vv (aam b1) a2
    rw[s,z,oG,fR];split
    ·trivial
    ·rcases eK (ht.tl k) with⟨c1,c2⟩ | ⟨o,p,c1,c2,hr⟩
     ·rw[c1,c2];trivial
     ·rw[c1,c2];exact hr.ext hF x
   ·rw[a2,aaT];have r:i<Mo.length:=by simpa using a3
    have w:i<Lo.length:=by omega
    have z:L'.get k=some (Lo[i]):=by rw[<-n];exact cO u a s (aag w)
    rw[z,aag r];have:=q2 (1000+i);rw[cA,aW,o6 (by omega),o6 (by omega),show 1000+i-1000=i by omega,aag r,aag w] at this;exact di.ren l this
  ·obtain⟨cs,h⟩:=ht.kp k g t e
   by_cases d:k∈ks
   ·exact b k g t cs d h
   ·exact⟨cs,y k d _ h⟩
theorem rz {ks:List Nat}:∀{ko:List Nat},(∀k∈ko,k∈ks)->mq M ks ko=true
 | [],_=>rfl
 | k::ko,h=>by
  simp only[mq,cT.2 (h k (by simp))];exact rz fun j a=>h j (by simp[a])
def S9 (hb:List (Nat×Nat)) (L:Loc):Prop:=∀k n,(k,n)∈hb->∃g t cs,L.get k=some (.box g t cs)/\cs.length=n
def Iz (F':aD) (L':Loc) (M':TL):Prop:=∀k o,M'.get k=some o->∃p,L'.get k=some p/\di F' L' o p
theorem zH {F':aD}{L':Loc}{M':TL}(h:dm F' L' M'):Iz F' L' M':=fun k o e=>by
 rcases eK (h k) with⟨a,b⟩ | ⟨o',p,a,b,c⟩
 ·rw[e] at a;cases a
 ·rw[e] at a;injection a with a
  subst a;exact⟨p,b,c⟩
def IA (PS:qd) (F':aD) (L':Loc) (v:Value):Prop:=∀s,PS.st=some s->∃M',Iz F' L' M'/\s M' v
theorem IA.no {PS:qd}(h:PS.st=none) {F':aD}{L':Loc}{v:Value}:IA PS F' L' v:=fun s e=>by rw[h] at e;cases e
def yE (G:Nat->Option (Nat×TypeId)) (PS:qd) (F':aD) (L':Loc) (v:Value):Prop:=Kp G L'/\PS.ps v/\S9 PS.hb L'/\IA PS F' L' v
theorem Ck:∀{hb:List (Nat×Nat)}{ks:List Nat},lT M ks hb=true->∀k n,(k,n)∈hb->k∉ks/\∃t cs,M.get k=some (.box t cs)/\cs.length=n
 | [],ks,_,k,n,h=>by cases h
 | (j,m)::l,ks,h,k,n,a=>by
  simp only[lT] at h;split at h
  case h_2=>cases h
  rename_i t cs b f;split at h
  case h_2=>cases h
  rename_i d;rcases aal.1 a with e | a
  ·simp only[Prod.mk.injEq] at e;obtain⟨rfl,rfl⟩:=e;exact⟨fun c=>(by rw[cT.2 c] at b;cases b),t,cs,f,bD d⟩
  ·exact Ck h k n a
theorem IB {hb:List (Nat×Nat)}{ks:List Nat}{L':Loc}(b:dm F L M) (h:lT M ks hb=true) (l:∀k g t cs,k∉ks->L.get k=some (.box g t cs)->L'.get k=some (.box g t cs)):S9 hb L':=by
 intro k n f;obtain⟨c,t,cs,e,j⟩:=Ck h k n f;obtain⟨g,ty,vs,a,d,_⟩:=kP b e;exact⟨g,ty,vs,l k g ty vs c a,by rw[d.len,j]⟩
theorem wg {ks ko:List Nat}{Lin:List TO}{Li:List Own}{R:List TO->C->Prop}{K:TL->aX->C->Prop}(ht:TS G F L ρ M τ)
  (h2:bJ ks=true) (h3:bJ ko=true) (h4:mq M ks ko=true) (h5:aU Lin ks ko=true) (e1:L.sub ks=some Li) (e2:Li.length=Lin.length) (e3:∀(i:Nat) o p,Lin[i]?=some o->Li[i]?=some p->di F L o p)
  (h7:∀v Mo,R Mo v->Wf v->(∀o∈Mo,o.Wf)->ko.length=Mo.length/\K (((M.ZB ks).kills (rowsOf M ks)).puts ko (Mo.map (TO.ZC (C.ren (aZ ko))))) (fF (rowsOf M ks) τ) (v.ren (aZ ko)).slt) :
  ∀v F' Lo,F.le F'->hO Li R F' Lo v->ko.length=Lo.length/\(∀k g t cs,k∈ks->L.get k=some (.box g t cs)->∃cs',Loc.get ((L.ZB ks).puts ko Lo) k=some (.box g t cs')) /\
   ∃M' ag c,TS G F' ((L.ZB ks).puts ko Lo) ρ M' ag/\aQ F' ((L.ZB ks).puts ko Lo) c (.v v)/\K M' ag c:=by
 have hn:=cV h2;have l:=cV h3;have ax:∀k,k∈ko->k∈ks\/L.get k=none:=fun k n=>(rq h4 k n).imp id fun e=>cj ht.tl e;have az:=eW e1;rintro v F' Lo hF ⟨Mo,c,q1,q2,q3,q4,q5⟩;have ay:∀o∈Mo,o.Wf:=by
  intro o w;obtain⟨i,hi⟩:=aaE.1 w;have d:i<Lo.length:=by rw[<-q1];exact(aai.1 hi).1
  have:=q2 (1000+i);rw[cA,aW,o6 (by omega),o6 (by omega),show 1000+i-1000=i by omega,hi,aag d] at this;exact di.wf this
 obtain⟨k1,k2⟩:=h7 c Mo q5 q3.wf ay;have a:ko.length=Lo.length:=by rw[k1,q1]
 have b:∀k g t cs,k∈ks->L.get k=some (.box g t cs)->∃cs',Loc.get ((L.ZB ks).puts ko Lo) k=some (.box g t cs'):=by
  intro k g t cs n hg;obtain⟨i,hi⟩:=aaE.1 n;have u:Li[i]?=some (.box g t cs):=by rw[<-az.2 i k hi];exact hg
  have d:i<Lin.length:=by rw[<-e2];exact(aai.1 u).1
  have hr:=e3 i _ _ (aag d) u;cases hL:Lin[i] with
  | row=>rw[hL] at hr;exact hr.elim
  | box t' cs' =>
   obtain⟨k',f,b2⟩:=xE h5 i t' cs' (by rw[aag d,hL]);rw[hi] at f;injection f with f
   subst f;obtain⟨q,r⟩:=q4 i g t cs u;exact⟨q,cO l a b2 r⟩
  | map es =>
   obtain⟨k',f,b2⟩:=eZ h5 i (.map es) (by rw[aag d,hL]) rfl;rw[hi] at f;injection f with f
   subst f;obtain⟨q,r⟩:=q4 i g t cs u;exact⟨q,cO l a b2 r⟩
  | win t0 p0 c0 q0 =>
   obtain⟨k',f,b2⟩:=eZ h5 i (.win t0 p0 c0 q0) (by rw[aag d,hL]) rfl;rw[hi] at f;injection f with f
   subst f;obtain⟨q,r⟩:=q4 i g t cs u;exact⟨q,cO l a b2 r⟩
 refine⟨a,b,?_⟩;generalize y:(L.ZB ks).puts ko Lo=L' at b
 -- what was there before
 have ab:∀k,k∉ks->∀o,L.get k=some o->L'.get k=some o:=by
  intro k n o w;rw[<-y];rcases dI ko Lo (L.ZB ks) k l a with⟨x,a2⟩ | ⟨i,x,a2,a3⟩
  ·rw[x,fR,vz n];exact w
  ·rcases ax k (aam x) with e | e
   ·exact vv e n
   ·rw[w] at e;cases e
 have aa:Ext (ni (rowsOf M ks) L) L':=by
  intro k o w;obtain⟨g1,g2⟩:=pD w
  by_cases n:k∈ks
  ·obtain⟨g,t,cs,rfl⟩:=xG ht.tl n g1 g2;obtain⟨cs',h⟩:=b k g t cs n g1;exact⟨_,h,rfl,rfl⟩
  ·exact⟨o,ab k n o g1,Own.ZD o⟩
 have s:∀j m,aZ ko j=some m->∀o,(inp Lo).get j=some o->L'.get m=some o:=by
  intro j m hj o w;obtain⟨x,a2⟩:=mM hj;rw[aW,o6 x] at w;rw[<-y];exact cO l a a2 w
 refine⟨_,_,_,⟨fun k=>?_,fun j=>?_,fun k g t e=>?_,ht.glob.mono hF⟩,jZ (q3.ren s),k2⟩
 ·rcases mL ko (Mo.map (TO.ZC (C.ren (aZ ko)))) ((M.ZB ks).kills (rowsOf M ks)) k l (by simp[k1]) with⟨x,a2⟩ | ⟨i,x,a2,a3⟩
  ·have ac:L'.get k=(L.ZB ks).get k:=by
    rw[<-y];rcases dI ko Lo (L.ZB ks) k l a with⟨f,_⟩ | ⟨i,f,_,_⟩
    ·exact f
    ·exact vv (aam f) a2
   rw[x,ac,xw,oG,fR];split
   ·trivial
   ·rcases eK (ht.tl k) with⟨c1,c2⟩ | ⟨o,p,c1,c2,hr⟩
    ·rw[c1,c2];trivial
    ·rw[c1,c2];exact(hr.kills (rowsOf M ks)).ext hF aa
  ·rw[a2,aaT];have d:i<Mo.length:=by simpa using a3
   have z:i<Lo.length:=by omega
   have ac:L'.get k=some (Lo[i]):=by rw[<-y];exact cO l a x (aag z)
   rw[ac,aag d];have:=q2 (1000+i);rw[cA,aW,o6 (by omega),o6 (by omega),show 1000+i-1000=i by omega,aag d,aag z] at this;exact di.ren s this
 ·rw[xD];exact((ht.env j).kills (rowsOf M ks)).ext hF aa
 ·obtain⟨cs,h⟩:=ht.kp k g t e
  by_cases n:k∈ks
  ·exact b k g t cs n h
  ·exact⟨cs,ab k n _ h⟩
theorem xH {PS:qd}{Pp:Value->Prop}{f:Nat}{args:List C}{vs:List Value}{ks ko:List Nat}{Lin:List TO}{R:List TO->C->Prop}{K:TL->aX->C->Prop}(a:TS G F L ρ M τ) (ha:aF F L args vs)
  (h1:M.sub ks=some Lin) (x:bJ ks=true) (y:bJ ko=true) (w:mq M ks ko=true) (h5:aU Lin ks ko=true) (l:lT M ks PS.hb=true)
  (h6:CallsTX P f (args.map fun c=>c.ZG.ren (cD ks 1000)) (Lin.map (TO.ZC (C.ren (cD ks 1000)))) R Pp) (p:∀v,Pp v->PS.ps v) (r:PS.st=none)
  (h7:∀v Mo,R Mo v->Wf v->(∀o∈Mo,o.Wf)->ko.length=Mo.length/\K (((M.ZB ks).kills (rowsOf M ks)).puts ko (Mo.map (TO.ZC (C.ren (aZ ko))))) (fF (rowsOf M ks) τ) (v.ren (aZ ko)).slt) :
  ∃Li,L.sub ks=some Li/\ks.Nodup/\ko.Nodup/\(∀k,k∈ko->k∈ks\/L.get k=none)/\uq P f vs.toArray F Li (hO Li R) Pp/\(∀v F' L',wS ks L L'->Pp v->yE G PS F' L' v) /\
  ∀v F' Lo,F.le F'->hO Li R F' Lo v->ko.length=Lo.length/\(∀k g t cs,k∈ks->L.get k=some (.box g t cs)->∃cs',Loc.get ((L.ZB ks).puts ko Lo) k=some (.box g t cs')) /\
   ∃M' j c,TS G F' ((L.ZB ks).puts ko Lo) ρ M' j/\aQ F' ((L.ZB ks).puts ko Lo) c (.v v)/\K M' j c:=by
 obtain⟨Li,b,m,z⟩:=qF a.tl h1;have hn:=cV x;have s:=cV y;have n:∀k,k∈ko->k∈ks\/L.get k=none:=fun k u=>(rq w k u).imp id fun e=>cj a.tl e;have ae:=eW b;refine⟨Li,b,hn,s,n,h6.out F Li vs (by simp[m]) (sS a.tl m b z) ?_,fun v F' L' d hv=>⟨fun k g t e=>let⟨cs,h⟩:=a.kp k g t e;let⟨cs',h',_⟩:=d k g t cs h;⟨cs',h'⟩,p v hv,IB a.tl l fun k g t cs u e=>let⟨cs',h',q⟩:=d k g t cs e;by rw[h',q u],IA.no r⟩,?_⟩
 ·exact ha.map fun c _ v hc=>(iP hc).ren (nJ b)
 ·exact wg a x y w h5 b m z h7
theorem zI {PS:qd}{Pp:Value->Prop}{f:Nat}{args:List C}{vs:List Value}{ks ko:List Nat}{Lin:List TO}{R:List TO->C->Prop}{K:TL->aX->C->Prop}(p:TS G F L ρ M τ) (s:aF F L args vs)
  (q:M.sub ks=some Lin) (t:bJ ks=true) (h3:bJ ko=true) (k:mq M ks ko=true) (m:aU Lin ks ko=true) (b:lT M ks PS.hb=true)
  (u:CallsTX P f (args.map fun c=>c.ZG.ren (cD ks 1000)) (Lin.map (TO.ZC (C.ren (cD ks 1000)))) R Pp) (d:∀v,Pp v->PS.ps v) (e:PS.st=none)
  (h:∀v Mo,R Mo v->Wf v->(∀o∈Mo,o.Wf)->ko.length=Mo.length/\K (((M.ZB ks).kills (rowsOf M ks)).puts ko (Mo.map (TO.ZC (C.ren (aZ ko))))) (fF (rowsOf M ks) τ) (v.ren (aZ ko)).slt) :
  fD P (yE G PS) f vs F L (fun F' L' v=>∃M' a c,TS G F' L' ρ M' a/\aQ F' L' c (.v v)/\K M' a c):=by
 obtain⟨Li,l,y,j,r,n,z,x⟩:=xH p s q t h3 k m b u d e h;exact⟨ks,ko,Li,hO Li R,fun _ _=>Pp,l,y,j,r,n.toS,fun v F' Lo _ _ hb w=>z v F' _ hb w,x⟩
theorem i9:∀{Lin:List TO}{ks ko:List Nat},aU Lin ks ko=true->aU Lin ks ks=true
 | [],ks,ko,h=>by simp only[aU]
 | .box t cs::l,[],ko,h=>by simp only[aU] at h;cases h
 | .map es::l,[],ko,h=>by simp only[aU] at h;cases h
 | .win ..::l,[],ko,h=>by simp only[aU] at h;cases h
 | .row t sz els::l,[],ko,h=>by simp only[aU] at h;cases h
 | .box t cs::l,k::ks,[],h=>by simp only[aU] at h;cases h
 | .map es::l,k::ks,[],h=>by simp only[aU] at h;cases h
 | .win ..::l,k::ks,[],h=>by simp only[aU] at h;cases h
 | .box t cs::l,k::ks,a::ko,h=>by
  have e:Nat.beq k k=true:=by simp
  simp only[aU] at h ⊢;split at h
  ·rw[e];exact i9 h
  ·cases h
 | .map es::l,k::ks,a::ko,h=>by
  have e:Nat.beq k k=true:=by simp
  simp only[aU] at h ⊢;split at h
  ·rw[e];exact i9 h
  ·cases h
 | .win ..::l,k::ks,a::ko,h=>by
  have e:Nat.beq k k=true:=by simp
  simp only[aU] at h ⊢;split at h
  ·rw[e];exact i9 h
  ·cases h
 | .row t sz els::l,k::ks,[],h=>by
  simp only[aU] at h ⊢;exact i9 h
 | .row t sz els::l,k::ks,a::ko,h=>by
  simp only[aU] at h ⊢;exact i9 h
theorem DQ {PS:qd}{Pp:Value->Prop}{f:Nat}{args:List C}{vs:List Value}{ks:List Nat}{Lin:List TO}{R:List TO->C->Prop}{K:TL->aX->C->Prop}(z:TS G F L ρ M τ) (ha:aF F L args vs)
  (h1:M.sub ks=some Lin) (h2:bJ ks=true) (h6:lu P f (args.map fun c=>c.ZG.ren (cD ks 1000)) (Lin.map (TO.ZC (C.ren (cD ks 1000)))) R Pp) (ax:∀v,Pp v->PS.ps v) (ao:PS.st=none) (an:lT M ks PS.hb=true)
  (h7:∀v Mo,R Mo v->Wf v->(∀o∈Mo,o.Wf)->ks.length=Mo.length/\K ((M.ZB ks).puts ks (Mo.map (TO.ZC (C.ren (aZ ks))))) τ (v.ren (aZ ks)).slt) :
  fD P (yE G PS) f vs F L (fun F' L' v=>∃M' ae c,TS G F' L' ρ M' ae/\aQ F' L' c (.v v)/\K M' ae c):=by
 obtain⟨Li,e1,e2,e3⟩:=qF z.tl h1;have w:=cV h2;have al:=eW e1;refine⟨ks,ks,Li,_,fun _ _=>Pp,e1,w,w,fun k d=>.inl d,(h6.out F Li vs (by simp[e2]) (sS z.tl e2 e1 e3) ?_).toS,fun v F' Lo _ _ ag hv=>⟨fun k g t e=>let⟨cs,h⟩:=z.kp k g t e;let⟨cs',h',_⟩:=ag k g t cs h;⟨cs',h'⟩,ax v hv,IB z.tl an fun k g t cs d e=>let⟨cs',h',q⟩:=ag k g t cs e;by rw[h',q d],IA.no ao⟩,?_⟩
 ·exact ha.map fun c _ v hc=>(iP hc).ren (nJ e1)
 ·rintro v F' Lo hF ⟨⟨Mo,c,q1,q2,q3,q4,q5⟩,bo,aE⟩;have ay:∀o∈Mo,o.Wf:=by
   intro o r;obtain⟨i,hi⟩:=aaE.1 r;have s:i<Lo.length:=by rw[<-q1];exact(aai.1 hi).1
   have:=q2 (1000+i);rw[cA,aW,o6 (by omega),o6 (by omega),show 1000+i-1000=i by omega,hi,aag s] at this;exact di.wf this
  obtain⟨k1,k2⟩:=h7 c Mo q5 q3.wf ay;have a:ks.length=Lo.length:=by rw[k1,q1]
  have b:∀k g t cs,k∈ks->L.get k=some (.box g t cs)->∃cs',Loc.get ((L.ZB ks).puts ks Lo) k=some (.box g t cs'):=by
   intro k g t cs d hg;obtain⟨i,hi⟩:=aaE.1 d;have ac:Li[i]?=some (.box g t cs):=by rw[<-al.2 i k hi];exact hg
   obtain⟨ap,ar⟩:=q4 i g t cs ac;exact⟨ap,cO w a hi ar⟩
  refine⟨a,b,?_⟩;generalize n:(L.ZB ks).puts ks Lo=L' at b;have aa:∀k,k∉ks->∀o,L.get k=some o->L'.get k=some o:=by
   intro k d o r;rw[<-n];rcases dI ks Lo (L.ZB ks) k w a with⟨u,a2⟩ | ⟨i,u,a2,a3⟩
   ·rw[u,fR,vz d];exact r
   ·exact vv (aam u) d
  have y:Ext L L':=by
   intro k o r
   by_cases d:k∈ks
   ·obtain⟨i,hi⟩:=aaE.1 d;have ac:Li[i]?=some o:=by rw[<-al.2 i k hi];exact r
    obtain⟨o',h1,h2⟩:=aE i o ac;exact⟨o',by rw[<-n];exact cO w a hi h1,h2⟩
   ·exact⟨o,aa k d o r,Own.ZD o⟩
  have l:∀j m,aZ ks j=some m->∀o,(inp Lo).get j=some o->L'.get m=some o:=by
   intro j m hj o r;obtain⟨u,a2⟩:=mM hj;rw[aW,o6 u] at r;rw[<-n];exact cO w a a2 r
  refine⟨_,_,_,⟨fun k=>?_,fun j=>(z.env j).ext hF y,fun k g t e=>?_,z.glob.mono hF⟩,jZ (q3.ren l),k2⟩
  ·rcases mL ks (Mo.map (TO.ZC (C.ren (aZ ks)))) (M.ZB ks) k w (by simp[k1]) with⟨u,a2⟩ | ⟨i,u,a2,a3⟩
   ·have ab:L'.get k=(L.ZB ks).get k:=by
     rw[<-n];rcases dI ks Lo (L.ZB ks) k w a with⟨b1,_⟩ | ⟨i,b1,_,_⟩
     ·exact b1
     ·exact vv (aam b1) a2
    rw[u,ab,oG,fR];split
    ·trivial
    ·rcases eK (z.tl k) with⟨c1,c2⟩ | ⟨o,p,c1,c2,hr⟩
     ·rw[c1,c2];trivial
     ·rw[c1,c2];exact hr.ext hF y
   ·rw[a2,aaT];have s:i<Mo.length:=by simpa using a3
    have x:i<Lo.length:=by omega
    have ab:L'.get k=some (Lo[i]):=by rw[<-n];exact cO w a u (aag x)
    rw[ab,aag s];have:=q2 (1000+i);rw[cA,aW,o6 (by omega),o6 (by omega),show 1000+i-1000=i by omega,aag s,aag x] at this;exact di.ren l this
  ·obtain⟨cs,h⟩:=z.kp k g t e
   by_cases d:k∈ks
   ·exact b k g t cs d h
   ·exact⟨cs,aa k d _ h⟩
theorem zJ {ps:Value->Prop}{hb:List (Nat×Nat)}{st:TL->Value->Prop}{PS:qd}{Pp:List TO->Value->Prop}{f:Nat}{args:List C}{vs:List Value}{ks ko:List Nat}{Lin:List TO}{R:List TO->C->Prop}{K:TL->aX->C->Prop}(j:TS G F L ρ M τ) (ha:aF F L args vs)
  (ag:PS=⟨ps,hb,some st⟩) (h1:M.sub ks=some Lin) (m:bJ ks=true) (h3:bJ ko=true) (h4:mq M ks ko=true) (h5:aU Lin ks ko=true) (z:lT M ks hb=true)
  (h6:CallsTS P f (args.map fun c=>c.ZG.ren (cD ks 1000)) (Lin.map (TO.ZC (C.ren (cD ks 1000)))) R Pp)
  (ad:∀v Mo,Pp Mo v->(∀o∈Mo,o.Wf)->ks.length=Mo.length->ps v/\st (((M.ZB ks).kills (rowsOf M ks)).puts ks (Mo.map (TO.ZC (C.ren (aZ ks))))) v)
  (h7:∀v Mo,R Mo v->Wf v->(∀o∈Mo,o.Wf)->ko.length=Mo.length/\K (((M.ZB ks).kills (rowsOf M ks)).puts ko (Mo.map (TO.ZC (C.ren (aZ ko))))) (fF (rowsOf M ks) τ) (v.ren (aZ ko)).slt) :
  fD P (yE G PS) f vs F L (fun F' L' v=>∃M' d c,TS G F' L' ρ M' d/\aQ F' L' c (.v v)/\K M' d c):=by
 subst ag;obtain⟨Li,l,x,e3⟩:=qF j.tl h1;have hn:=cV m;have al:=cV h3;have ac:∀k,k∈ko->k∈ks\/L.get k=none:=fun k w=>(rq h4 k w).imp id fun e=>cj j.tl e;obtain⟨aa,ab⟩:=eW l;refine⟨ks,ko,Li,hO Li R,_,l,hn,al,ac,h6.out F Li vs (by simp[x]) (sS j.tl x l e3) (ha.map fun c _ v hc=>(iP hc).ren (nJ l)),?_,wg j m h3 h4 h5 l x e3 h7⟩;rintro v F' Lo hF n u ⟨Mo,q1,q2,q3⟩;have y:∀o∈Mo,o.Wf:=by
  intro o ho;obtain⟨i,hi⟩:=aaE.1 ho;have a:i<Lo.length:=by rw[<-q1];exact(aai.1 hi).1
  have:=q2 (1000+i);rw[cA,aW,o6 (by omega),o6 (by omega),show 1000+i-1000=i by omega,hi,aag a] at this;exact di.wf this
 obtain⟨p1,p2⟩:=ad v Mo q3 y (by omega);have p:hO Li (fun Mo' _=>Mo'=Mo) F' Lo undef:=by
  refine⟨Mo,.any,q1,q2,by simp only[Rel],fun i g t cs e=>?_,rfl⟩;have a:i<ks.length:=by rw[<-aa];exact(aai.1 e).1
  have r:=ab i _ (aag a);rw[e] at r;obtain⟨cs',h,_⟩:=u _ g t cs r;have m:Loc.get ((L.ZB ks).puts ks Lo) ks[i]=Lo[i]?:=by
   have b:i<Lo.length:=by omega
   rw[aag b];exact cO hn n (aag a) (aag b)
  exact⟨cs',by rw[<-m];exact h⟩
 have ae:aU Lin ks ks=true:=i9 h5;obtain⟨_,_,M',d,c,t1,_,rfl⟩:=wg (K:=fun M' _ _=>M'=((M.ZB ks).kills (rowsOf M ks)).puts ks (Mo.map (TO.ZC (C.ren (aZ ks))))) j m m (rz fun k w=>w) ae l x e3
  (fun v' Mo' e _ _=>by subst e;exact⟨by omega,rfl⟩) undef F' Lo hF p
 exact⟨t1.kp,p1,IB j.tl z fun k g t cs w e=>(let⟨cs',h',q⟩:=u k g t cs e;by rw[h',q w]),fun s e=>by injection e with e;subst e;exact⟨_,zH t1.tl,p2⟩⟩
theorem TS.same {L2:Loc}(b:TS G F L ρ M τ) (a:L.sameAs L2):TS G F L2 ρ M τ:=by
 have f:Ext L L2:=fun k o e=>⟨o,by rw[a k];exact e,Own.ZD o⟩;refine⟨fun k=>?_,fun j=>(b.env j).ext (aD.le_refl F) f,fun k g t e=>?_,b.glob⟩
 ·rcases eK (b.tl k) with⟨c,d⟩ | ⟨o,p,c,d,l⟩
  ·rw[a k,c,d];trivial
  ·rw[a k,c,d];exact l.ext (aD.le_refl F) f
 ·obtain⟨cs,h⟩:=b.kp k g t e;exact⟨cs,by rw[a k];exact h⟩
theorem xI:∀{ks a:List Nat},w7 ks a=true->∀k∈ks,k∉a
 | [],a,_,k,h=>by cases h
 | j::ks,a,h,k,b=>by
  simp only[w7] at h;split at h
  ·cases h
  ·rename_i c;rcases aal.1 b with rfl | b
   ·intro d;rw[cT.2 d] at c;cases c
   ·exact xI h k b
theorem pE {PS:qd}{p:List Nat}{f:Nat}{args:List C}{vs:List Value}{K:TL->aX->C->Prop}(ht:TS G F L ρ M τ) (ha:aF F L args vs) (h:nH P PS p f args M τ K) (l:PS.st=none) :
  CallXDPt P (yE G PS) p f vs F L (fun F' L' v=>∃M' b c,TS G F' L' ρ M' b/\aQ F' L' c (.v v)/\K M' b c):=by
 obtain⟨ks,Lin,R,Pp,h1,r,y,z,d,h6,j,u⟩:=h;have w:mq M ks ks=true:=rz (fun k hk=>hk);obtain⟨Li,x,s,q3,q4,q5,q6,q7⟩:=xH ht ha h1 r r w z d h6 j l u;refine⟨ks,Li,hO Li R,fun _ _=>Pp,x,s,xI y,q5.toS,fun v F' L' Lo _ _ m hp=>q6 v F' L' m hp,fun v F' Lo hF n=>?_⟩;obtain⟨q,a2,M',b,c,a3,a4,a5⟩:=q7 v F' Lo hF n;have a:=mK (L:=L) s q;refine⟨q,fun i g t cs e=>?_,fun _=>⟨M',b,c,a3.same a,a4.ext (aD.le_refl F') fun k o e=>⟨o,by rw[a k];exact e,Own.ZD o⟩,a5⟩⟩;obtain⟨Mo,c',_,_,_,b4,_⟩:=n;exact b4 i g t cs e
theorem qG {ps:Value->Prop}{hb:List (Nat×Nat)}{st:TL->Value->Prop}{PS:qd}{fb:List Nat}{f:Nat}{args:List C}{vs:List Value}{K:TL->aX->C->Prop}(w:TS G F L ρ M τ) (ha:aF F L args vs) (ab:PS=⟨ps,hb,some st⟩) (h:vY P ps hb st fb f args M τ K) :
  CallXDPt P (yE G PS) fb f vs F L (fun F' L' v=>∃M' l c,TS G F' L' ρ M' l/\aQ F' L' c (.v v)/\K M' l c):=by
 subst ab;obtain⟨ks,Lin,R,Pp,h1,h2,h0,h5,aa,h6,ad,h7⟩:=h;have h4:mq M ks ks=true:=rz (fun k b=>b);obtain⟨Li,x,e2,e3⟩:=qF w.tl h1;have hn:=cV h2;obtain⟨aE,bt⟩:=eW x;refine⟨ks,Li,hO Li R,_,x,hn,xI h0,h6.out F Li vs (by simp[e2]) (sS w.tl e2 x e3) (ha.map fun c _ v hc=>(iP hc).ren (nJ x)),?_,fun v F' Lo hF hR=>?_⟩
 ·rintro v F' L' Lo hF ag u ⟨Mo,q1,q2,q3⟩;have ae:∀o∈Mo,o.Wf:=by
   intro o z;obtain⟨i,hi⟩:=aaE.1 z;have d:i<Lo.length:=by rw[<-q1];exact(aai.1 hi).1
   have:=q2 (1000+i);rw[cA,aW,o6 (by omega),o6 (by omega),show 1000+i-1000=i by omega,hi,aag d] at this;exact di.wf this
  obtain⟨y1,y2⟩:=eW ag;obtain⟨p1,p2⟩:=ad v Mo q3 ae (by omega);have r:∀j m,aZ ks j=some m->∀o,(inp Lo).get j=some o->L'.get m=some o:=by
   intro j m hj o z;obtain⟨p,y⟩:=mM hj;rw[aW,o6 p] at z;rw[y2 _ _ y];exact z
  refine⟨fun k g t e=>let⟨cs,h⟩:=w.kp k g t e;let⟨cs',h',_⟩:=u k g t cs h;⟨cs',h'⟩,p1,IB w.tl aa fun k g t cs b e=>(let⟨cs',h',q⟩:=u k g t cs e;by rw[h',q b]),fun s e=>?_⟩;injection e with e
  subst e;refine⟨_,fun k o b=>?_,p2⟩;rcases mL ks (Mo.map (TO.ZC (C.ren (aZ ks)))) [] k hn (by simp;omega) with⟨p,y⟩ | ⟨i,p,y,a3⟩
  ·rw[p] at b;cases b
  ·rw[y,aaT] at b;have d:i<Mo.length:=by simpa using a3
   have n:i<Lo.length:=by omega
   rw[aag d] at b;injection b with b
   subst b;refine⟨Lo[i],by rw[y2 _ _ p];exact aag n,?_⟩;have:=q2 (1000+i);rw[cA,aW,o6 (by omega),o6 (by omega),show 1000+i-1000=i by omega,aag d,aag n] at this;exact di.ren r this
 ·obtain⟨p,y,M',l,c,a3,a4,a5⟩:=wg w h2 h2 h4 h5 x e2 e3 h7 v F' Lo hF hR;have a:=mK (L:=L) hn p;refine⟨p,fun i g t cs e=>?_,fun _=>⟨M',l,c,a3.same a,a4.ext (aD.le_refl F') fun k o e=>⟨o,by rw[a k];exact e,Own.ZD o⟩,a5⟩⟩;obtain⟨Mo,c',_,_,_,b4,_⟩:=hR;exact b4 i g t cs e
end
section
variable {P:Program}{G:Nat->Option (Nat×TypeId)}{F:aD}{L:Loc}{ρ:Env}{M:TL}{τ:aX}{a:Act}{w:World}
theorem Cl {F':aD}(m:F.le F') {k:Nat}{a:Option Addr}{c:Nat}{t sz:Nat}{els:List (List C)}{xs:List Value}(r:L.get k=some (.row (.slice a els.length c) t sz els.length xs))
  (s:Rel F' (L.del k) (.sl els) (.slice a els.length c)):(∀d v,C.leaf d=true->Rel F L d v->Rel F' (L.del k) (nG k els d) v)/\(∀d sv,C.leaf d=true->aQ F L d sv->aQ F' (L.del k) (nG k els d) sv):=by
 have l:∀j,j≠k->∀o,L.get j=some o->∃o',(L.del k).get j=some o'/\Own.like o o':=fun j f o u=>⟨o,by rw[Loc.ZE,vz f];exact u,Own.ZD o⟩;have b:∀g t cs,L.get k≠some (.box g t cs):=fun g t cs h=>by rw[r] at h;injection h with h;cases h
 constructor
 ·intro d v p h;cases d<;>simp only[C.leaf,aaq] at p
  case rw j =>
   simp only[nG];cases f:Nat.beq j k with
   | true =>
    have:=xo f;subst this;simp only[Rel] at h;obtain⟨z,x,y,n,n',q,rfl,h⟩:=h;rw[r] at h;injection h with h
    injection h with q1 q2 q3 q4 q5
    rw[<-q1];exact s
   | false =>
    have:=kR b l m (.rw j) v rfl h;simpa only[gT,f] using this
  all_goals
   have:=kR b l m _ v rfl h;simpa only[gT,nG] using this
 ·intro d sv p h;cases d<;>simp only[C.leaf,aaq] at p
  case rw j =>
   simp only[nG];cases f:Nat.beq j k with
   | true =>
    have:=xo f;subst this;simp only[aQ,Rel] at h;obtain⟨v,e,z,x,y,n,n',q,rfl,h⟩:=h;rw[r] at h;injection h with h
    injection h with q1 q2 q3 q4 q5
    rw[<-q1] at e;exact⟨_,e,s⟩
   | false =>
    have:=pz b l m (.rw j) sv rfl h;simpa only[gT,f] using this
  all_goals
   have:=pz b l m _ sv rfl h;simpa only[gT,nG] using this
theorem di.frz {F':aD}(b:F.le F') {k:Nat}{els:List (List C)}(j:∀d v,C.leaf d=true->Rel F L d v->Rel F' (L.del k) (nG k els d) v):∀{o:TO}{p:Own},di F L o p->di F' (L.del k) (o.ZC (C.frz k els)) p
 | .box t cs,.box g f vs,r=>⟨r.1,r.2.map fun c _ v h=>Rel.mp j 3 h⟩
 | .row t sz els,.row v f l n xs,r=>⟨r.1,r.2.1,r.2.2.1,r.2.2.2.1,r.2.2.2.2.mono b⟩
 | .box _ _,.row ..,r=>r.elim
 | .row ..,.box ..,r=>r.elim
 | .map _,.row ..,r=>r.elim
 | .map es,.box g f vs,r=>⟨r.1,r.2.mono b⟩
 | .win ..,.row ..,r=>r.elim
 | .win ..,.box ..,⟨x,v1,s,v3,e,m,q,u⟩=>⟨x,v1,s,v3,e,m.mono b,q.map fun c _ v h=>Rel.mp j 3 h,u.mono b⟩
theorem sV {k:Nat}{t sz:Nat}{els:List (List C)}(hs:St F L w) (z:aG L ρ a) (m:TS G F L ρ M τ) (hk:M.get k=some (.row t sz els)) :
  ∃F' L',St F' L' w/\aG L' ρ a/\Step F L w F' L' w/\TS G F' L' ρ ((M.del k).ZC (C.frz k els)) (fun j=>(τ j).frz k els)/\(∀{c v},Rel F L c v->Rel F' L' (c.frz k els) v):=by
 obtain⟨v,xs,s,⟨hm,q,cv,rfl,x⟩,hr⟩:=kQ m.tl hk;obtain⟨F',L',g1,g2,g3,l,b,rfl⟩:=oq (KK:=fun F' L'=>F.le F'/\Hj F' (.slice q els.length cv) sz els.length xs/\L'=L.del k) hs z ⟨_,_,_,_,_,s,fun F' l b=>⟨l,b,rfl⟩⟩;have n:Rel F' (L.del k) (.sl els) (.slice q els.length cv):=by
  simp only[Rel];rcases b with⟨d,f,y⟩ | ⟨ad,c2,d,f,y⟩
  ·injection d with q1 q2 q3
   have:els=[]:=List.length_eq_zero_iff.1 q2;subst this;exact⟨q,cv,rfl,by simp,by simp,fun _=>⟨rfl,q3⟩,sz,by simp only[gF]⟩
  ·injection d with q1 q2 q3
   subst q1 q3;exact⟨some ad,cv,rfl,y,hm,fun e=>(by cases e),sz,(hr.mono l).frz f⟩
 obtain⟨r,l2⟩:=Cl l s n;refine⟨F',L.del k,g1,g2,g3,⟨fun j=>?_,fun j=>aQ.mp r l2 3 (m.env j),fun j g t e=>?_,m.glob.mono l⟩,fun h=>Rel.mp r 3 h⟩
 ·rw[qE,TL.ZE,Loc.ZE];split
  ·trivial
  ·rcases eK (m.tl j) with⟨d,f⟩ | ⟨o,p,d,f,u⟩
   ·rw[d,f];trivial
   ·rw[d,f];exact u.frz l r
 ·obtain⟨cs,h⟩:=m.kp j g t e;exact⟨cs,by rw[Loc.ZE,vz (by rintro rfl;rw[s] at h;injection h with h;cases h)];exact h⟩
def xJ (k g:Nat):SV->SV
 | .own b off=>match Nat.beq b k with | true=>.v (.pointer (some ⟨g,off,none⟩)) | false=>.own b off
 | .v x=>.v x
 | .el a i=>.el a i
theorem IE {F':aD}(q:F.le F') {k g:Nat}{t:TypeId}{vs:List Value}{es:List C}(z:L.get k=some (.box g t vs)) (hg:F' g=some (.cells vs.toArray t (0,0))) (u:dP es=true) (y:aF F' [] es vs) :
  (∀d v,C.leaf d=true->Rel F L d v->Rel F' (L.del k) (rm k es d) v)/\(∀d sv,C.leaf d=true->aQ F L d sv->aQ F' (L.del k) (rm k es d) (xJ k g sv)):=by
 have r:∀j,j≠k->∀o,L.get j=some o->∃o',(L.del k).get j=some o'/\Own.like o o':=fun j f o ho=>⟨o,by rw[Loc.ZE,vz f];exact ho,Own.ZD o⟩;have p:∀o,Ls F' g o o vs:=fun o=>⟨0,_,t,(0,0),hg,by omega,fun i v hi=>⟨by simpa using hi,tj _⟩⟩;constructor
 ·intro d v hc h;cases d<;>simp only[C.leaf,aaq] at hc<;>simp only[rm]
  case own j off =>
   cases f:Nat.beq j k with
   | true =>
    have:=xo f;subst this;simp only[Rel] at h ⊢;obtain⟨g',t',cs,e,rfl⟩:=h;rw[z] at e;injection e with e
    injection e with e1 e2 e3
    subst e1;exact⟨_,_,vs,rfl,p off,u,y⟩
   | false=>exact bC q (fun s e=>by
     rcases e with⟨off,e⟩ | e | e | ⟨_,_,_,e⟩ | ⟨_,_,e⟩
     ·injection e with e;subst e;exact r j (fP f)
     ·cases e
     ·cases e
     ·cases e
     ·cases e) rfl h
  case ifo m ti j off =>
   cases f:Nat.beq j k with
   | true =>
    have:=xo f;subst this;simp only[Rel] at h;obtain⟨g',t',cs,e,rfl⟩:=h;rw[z] at e;injection e with e
    injection e with e1 e2 e3
    subst e1;cases m with
    | none=>simp only[Rel];exact⟨_,rfl,_,_,vs,rfl,p off,u,y⟩
    | some nm=>simp only[Rel];exact⟨_,rfl,_,rfl,_,_,vs,rfl,p off,u,y⟩
   | false=>exact bC q (fun s e=>by
     rcases e with⟨off,e⟩ | e | e | ⟨_,_,_,e⟩ | ⟨_,_,e⟩
     ·cases e
     ·cases e
     ·cases e
     ·injection e with _ _ e;subst e;exact r j (fP f)
     ·cases e) rfl h
  case rw j =>
   refine bC q (fun s e=>?_) rfl h;rcases e with⟨off,e⟩ | e | e | ⟨_,_,_,e⟩ | ⟨_,_,e⟩
   ·cases e
   ·injection e with e
    subst e;refine r j ?_;rintro rfl;simp only[Rel] at h;obtain⟨a',c',t',ag,n',ap,rfl,h⟩:=h;rw[z] at h;injection h with h
    cases h
   ·cases e
   ·cases e
   ·cases e
  case mpr j =>
   cases f:Nat.beq j k with
   | true=>simp only[Rel]
   | false=>exact bC q (fun s e=>by
     rcases e with⟨off,e⟩ | e | e | ⟨_,_,_,e⟩ | ⟨_,_,e⟩
     ·cases e
     ·cases e
     ·injection e with e;subst e;exact r j (fP f)
     ·cases e
     ·cases e) rfl h
  case ownv=>exact h.elim
  case elr j a b =>
   refine bC q (fun s e=>?_) rfl h;rcases e with⟨off,e⟩ | e | e | ⟨_,_,_,e⟩ | ⟨_,_,e⟩<;>first | cases e;done | skip
   injection e with e
   subst e;refine r j ?_;rintro rfl;simp only[Rel] at h;obtain⟨ad,t,sz,n,c,xs,_,h⟩:=h;rw[z] at h;injection h with h
   cases h
  case slo j a =>
   cases f:Nat.beq j k with
   | true=>simp only[Rel]
   | false=>exact rp q (r j (fP f)) h
  case slp=>exact h.elim
  all_goals
   exact bC q (fun s e=>by rcases e with⟨off,e⟩ | e | e | ⟨_,_,_,e⟩ | ⟨_,_,e⟩<;>cases e) rfl h
 ·intro d sv hc h;have keep:∀{c:C},(∀j off,c≠.own j off)->c.leaf=true->c≠.any->aQ F L c sv->xJ k g sv=sv:=by
   intro c al hl av hv;cases sv with
   | v x=>rfl
   | el a i=>rfl
   | own k' off =>
    exfalso;cases c<;>simp only[C.leaf,aaq] at hl<;>first
     | exact al _ _ rfl
     | exact av rfl
     | (obtain⟨v,e,_⟩:=hv;cases e;done)
     | (obtain⟨b,o,j,us,e | e,_⟩:=hv
        ·cases e.1
        ·cases e)
     | (obtain⟨ad,t,sz,n,c,xs,e,_⟩:=hv;cases e;done)
     | (obtain⟨_,_,_,_,_,e,_⟩:=hv;cases e;done)
     | (obtain⟨v,e | ⟨b,o,j,e,_⟩,_⟩:=hv
        ·cases e
        ·cases e)
  cases d<;>simp only[C.leaf,aaq] at hc<;>simp only[rm]
  case any=>trivial
  case own j off =>
   obtain⟨rfl,g',t',cs,e⟩:=h;simp only[xJ];cases f:Nat.beq j k with
   | true =>
    have:=xo f;subst this;exact⟨g,off,0,vs,.inl ⟨rfl,rfl⟩,p off,u,y⟩
   | false =>
    obtain⟨o',q1,q2⟩:=r j (fP f) _ e;cases o' with
    | row=>exact q2.elim
    | box g2 t2 an=>exact⟨rfl,g2,t2,an,q1⟩
  case ownv j off =>
   rw[keep (c:=.ownv j off) (fun _ _ e=>by cases e) rfl (fun e=>by cases e) h];cases f:Nat.beq j k with
   | true =>
    have:=xo f;subst this;obtain⟨v,ae,l⟩:=h;simp only[Rel] at l;obtain⟨g',t',cs,e,rfl⟩:=l;rw[z] at e;injection e with e
    injection e with e1 e2 e3
    subst e1;rcases ae with rfl | ⟨b,o,i,rfl,e⟩
    ·exact⟨g,off,0,vs,.inl ⟨rfl,rfl⟩,p off,u,y⟩
    ·injection e with e
     injection e with e
     injection e with q1 q2 q3
     subst q1 q2;exact⟨g,o,i,vs,.inr rfl,p (o+i),u,y⟩
   | false =>
    refine cW q (fun s e=>?_) rfl h;rcases e with⟨off,e⟩ | ⟨off,e⟩ | e | ⟨a,b,e⟩ | e | ⟨_,_,_,e⟩<;>first | cases e;done | skip
    injection e with e
    subst e;exact r j (fP f)
  case ifo m ti j off =>
   rw[keep (c:=.ifo m ti j off) (fun _ _ e=>by cases e) rfl (fun e=>by cases e) h];cases f:Nat.beq j k with
   | true =>
    have:=xo f;subst this;obtain⟨v,rfl,l⟩:=h;simp only[Rel] at l;obtain⟨g',t',cs,e,rfl⟩:=l;rw[z] at e;injection e with e
    injection e with e1 e2 e3
    subst e1;cases m with
    | none=>exact⟨_,rfl,by simp only[Rel];exact⟨_,rfl,_,_,vs,rfl,p off,u,y⟩⟩
    | some nm=>exact⟨_,rfl,by simp only[Rel];exact⟨_,rfl,_,rfl,_,_,vs,rfl,p off,u,y⟩⟩
   | false =>
    refine cW q (fun s e=>?_) rfl h;rcases e with⟨off,e⟩ | ⟨off,e⟩ | e | ⟨a,b,e⟩ | e | ⟨_,_,_,e⟩<;>first | cases e;done | skip
    injection e with _ _ e
    subst e;exact r j (fP f)
  case rw j =>
   rw[keep (c:=.rw j) (fun _ _ e=>by cases e) rfl (fun e=>by cases e) h];refine cW q (fun s e=>?_) rfl h;rcases e with⟨off,e⟩ | ⟨off,e⟩ | e | ⟨a,b,e⟩ | e | ⟨_,_,_,e⟩<;>first | cases e;done | skip
   injection e with e
   subst e;refine r j ?_;rintro rfl;obtain⟨v,_,l⟩:=h;simp only[Rel] at l;obtain⟨a',c',t',ag,n',ap,rfl,h⟩:=l;rw[z] at h;injection h with h
   cases h
  case elr j a b =>
   rw[keep (c:=.elr j a b) (fun _ _ e=>by cases e) rfl (fun e=>by cases e) h];refine cW q (fun s e=>?_) rfl h;rcases e with⟨off,e⟩ | ⟨off,e⟩ | e | ⟨a,b,e⟩ | e | ⟨_,_,_,e⟩<;>first | cases e;done | skip
   injection e with e
   subst e;refine r j ?_;rintro rfl;obtain⟨ad,t,sz,n,c,xs,_,h⟩:=h;rw[z] at h;injection h with h
   cases h
  case mpr j =>
   rw[keep (c:=.mpr j) (fun _ _ e=>by cases e) rfl (fun e=>by cases e) h];cases f:Nat.beq j k with
   | true=>trivial
   | false =>
    refine cW q (fun s e=>?_) rfl h;rcases e with⟨off,e⟩ | ⟨off,e⟩ | e | ⟨a,b,e⟩ | e | ⟨_,_,_,e⟩<;>first | cases e;done | skip
    injection e with e
    subst e;exact r j (fP f)
  case slo j a =>
   rw[keep (c:=.slo j a) (fun _ _ e=>by cases e) rfl (fun e=>by cases e) h];cases f:Nat.beq j k with
   | true=>trivial
   | false=>exact tM q (r j (fP f)) h
  case slp=>trivial
  all_goals
   rw[keep (fun _ _ e=>by cases e) rfl (fun e=>by cases e) h];exact cW q (fun s e=>by rcases e with⟨off,e⟩ | ⟨off,e⟩ | e | ⟨a,b,e⟩ | e | ⟨_,_,_,e⟩<;>cases e) rfl h
theorem IG (k g:Nat) (ρ:Env) (j:Nat):wE k g ρ j=xJ k g (ρ j):=by
 simp only[wE,xJ];cases ρ j<;>rfl
theorem DR {k:Nat}{t:TypeId}{cs:List C}(hs:St F L w) (he:aG L ρ a) (l:TS G F L ρ M τ) (hk:M.get k=some (.box t cs)) (u:dP cs=true) (y:dV cs=true) (hG:G k=none) :
  ∃F' L' ρ',St F' L' w/\aG L' ρ' a/\Step F L w F' L' w/\TS G F' L' ρ' ((M.del k).ZC (C.frb k cs)) (fun j=>(τ j).frb k cs):=by
 obtain⟨g,ty,vs,hL,hr,z⟩:=kP l.tl hk;obtain⟨F',d,hg,g1,g2,g3⟩:=sA hs he hL;rw[iz z.2.2] at hg;obtain⟨r,l2⟩:=IE (F:=F) d hL hg u ((eS y hr).mono d);refine⟨F',L.del k,_,g1,g2,g3,⟨fun j=>?_,fun j=>?_,fun j g t e=>?_,l.glob.mono d⟩⟩
 ·rw[qE,TL.ZE,Loc.ZE];split
  ·trivial
  ·rcases eK (l.tl j) with⟨x,q⟩ | ⟨o,p,x,q,b⟩
   ·rw[x,q];trivial
   ·rw[x,q];cases o with
    | row t sz els =>
     cases p with
     | box=>exact b.elim
     | row v s ag n xs=>exact⟨b.1,b.2.1,b.2.2.1,b.2.2.2.1,b.2.2.2.2.mono d⟩
    | box t cs =>
     cases p with
     | row=>exact b.elim
     | box g s us=>exact⟨b.1,b.2.map fun c _ v h=>Rel.mp r 3 h⟩
    | map es =>
     cases p with
     | row=>exact b.elim
     | box g s us=>exact⟨b.1,b.2.mono d⟩
    | win t pre cs post =>
     cases p with
     | row=>exact b.elim
     | box g s us =>
      obtain⟨r1,v1,v2,v3,e,u,y,h3⟩:=b;exact⟨r1,v1,v2,v3,e,u.mono d,y.map fun c _ v h=>Rel.mp r 3 h,h3.mono d⟩
 ·rw[IG];have m:=l.env j;cases f:(τ j).leaf with
  | true =>
   have e:(τ j).frb k cs=rm k cs (τ j):=vX f;simp only[e];exact l2 _ _ f m
  | false =>
   generalize ρ j=sv at m;generalize τ j=c at f m;have h':∃v,sv=.v v/\Rel F L c v:=by
    cases c<;>first | exact m | cases f
   obtain⟨v,rfl,hv⟩:=h';have aa:Rel F' (L.del k) (c.frb k cs) v:=Rel.mp r 3 hv;cases c<;>first | exact⟨v,rfl,aa⟩ | cases f
 ·obtain⟨cs,h⟩:=l.kp j g t e;exact⟨cs,by rw[Loc.ZE,vz (by rintro rfl;rw[hG] at e;cases e)];exact h⟩
theorem pF:∀{o:List Nat}{F:aD}{L:Loc}{M:TL}{τ:aX}{args:List C}{vs:List Value}{K:TL->aX->List C->Prop},St F L w->aG L ρ a->TS G F L ρ M τ->aF F L args vs->wY o M τ args K ->
  ∃F' L' M' e b,St F' L' w/\aG L' ρ a/\Step F L w F' L' w/\TS G F' L' ρ M' e/\aF F' L' b vs/\K M' e b
 | [],F,L,M,τ,args,vs,K,j,f,m,n,h=>⟨F,L,M,τ,args,j,f,Step.refl _ _ _,m,n,h⟩
 | k::o,F,L,M,τ,args,vs,K,j,f,m,n,h=>by
  simp only[wY] at h;split at h
  case h_2=>exact h.elim
  rename_i t sz els hk;obtain⟨F1,L1,y,z,x,s,g5⟩:=sV j f m hk;obtain⟨F2,L2,M2,l,d,u,k2,p,k4,r,k6⟩:=pF y z s (n.map fun c _ v q=>g5 q) h;exact⟨F2,L2,M2,l,d,u,k2,x.trans p,k4,r,k6⟩
def vp (L:Loc):TL->Loc
 | []=>[]
 | (k,o)::l=>(k,match L.get k with
  | some p=>p
  | none=>match o with
   | .row t sz _=>.row (.slice none 0 0) t sz 0 []
   | .box _ _=>.row (.slice none 0 0) 0 0 0 []
   | .map _=>.row (.slice none 0 0) 0 0 0 []
   | .win _ _ _ _=>.row (.slice none 0 0) 0 0 0 [])::vp L l
theorem j7:∀(M1:TL) (k:Nat),(vp L M1).get k=match M1.get k with
  | some o=>some (match L.get k with | some p=>p | none=>match o with | .row t sz _=>.row (.slice none 0 0) t sz 0 [] | .box _ _=>.row (.slice none 0 0) 0 0 0 [] | .map _=>.row (.slice none 0 0) 0 0 0 [] | .win _ _ _ _=>.row (.slice none 0 0) 0 0 0 [])
  | none=>none
 | [],k=>rfl
 | (j,o)::l,k=>by
  simp only[vp,Loc.get,TL.get];cases h:Nat.beq j k with
  | true=>have:=xo h;subst this;rfl
  | false=>exact j7 l k
theorem Cm:∀{l:TL}{M1:TL},gives M M1 l->∀{k o},l.get k=some o->(∃p,M.get k=some p/\S3 M M1 p o)\/(M.get k=none/\∃t sz,o=.row t sz [])
 | [],M1,h,k,o,e=>by cases e
 | (j,p)::l,M1,h,k,o,e=>by
  simp only[gives] at h;simp only[TL.get] at e;split at e
  ·rename_i b;have:=xo b;subst this;injection e with e
   subst e;exact h.1
  ·exact Cm h.2 e
theorem uP (c:dm F L M) {M1:TL}:∀{l:TL},gives M M1 l->L.gives (vp L l)
 | [],h=>trivial
 | (j,p)::l,h=>by
  simp only[gives] at h;refine⟨?_,uP c h.2⟩;rcases h.1 with⟨q,b,m⟩ | ⟨b,t,sz,rfl⟩
  ·rcases eK (c j) with⟨d,e⟩ | ⟨o,f,d,e,k⟩
   ·rw[d] at b;cases b
   ·simp only[e];exact .inl trivial
  ·have:=cj c b;simp only[this];exact .inr ⟨trivial,t,sz,rfl⟩
theorem qH {L':Loc}{M1:TL}(y:∀k o,M1.get k≠none->L.get k=some o->L'.get k=some o):∀(n:Nat) {c:C}{v:Value},fU M1 n c=true->Rel F L c v->Rel F L' c v:=by
 have l:∀{c:C}{v:Value},c.leaf=true->mo M1 c=true->Rel F L c v->Rel F L' c v:=by
  intro c v f b h
  by_cases p:∃k d,c=.slo k d
  ·obtain⟨k,d,rfl⟩:=p;refine rp (aD.le_refl F) (fun o s=>⟨o,y k o ?_ s,Own.ZD o⟩) h;simp only[mo] at b;intro e;rw[e] at b;cases b
  refine bC (aD.le_refl F) (fun k e o s=>⟨o,y k o ?_ s,Own.ZD o⟩) f h (fun k d e=>p ⟨k,d,e⟩);rcases e with⟨off,rfl⟩ | rfl | rfl | ⟨m,t,off,rfl⟩ | ⟨j,off,rfl⟩
  ·simp only[mo] at b;intro e;rw[e] at b;cases b
  ·simp only[mo] at b;intro e;rw[e] at b;cases b
  ·simp only[mo] at b;intro e;rw[e] at b;cases b
  ·simp only[mo] at b;intro e;rw[e] at b;cases b
  ·simp only[mo,aaq] at b
 intro n
 induction n with
 | zero =>
  intro c v b h;cases f:c.leaf
  ·cases c<;>simp only[C.leaf,Bool.true_eq_false] at f<;>simp only[fU,aaq] at b
  ·refine l f ?_ h;cases c<;>simp only[C.leaf,aaq] at f<;>simpa only[fU] using b
 | succ n ih =>
  intro c v b h;have all:∀{cs:List C}{vs:List Value},cs.all (fU M1 n)=true->aF F L cs vs->aF F L' cs vs:=by
   intro cs vs q r;have:=r.map (g:=id) (F':=F) (L':=L') (fun c f v z=>ih (aas.1 q c f) z);simpa using this
  cases f:c.leaf
  ·cases c<;>simp only[C.leaf,Bool.true_eq_false] at f<;>simp only[fU,aaj] at b<;>simp only[Rel] at h ⊢
   ·obtain⟨x,u,q,r,h3⟩:=h;exact⟨x,u,q,all b.1 r,all b.2 h3⟩
   ·obtain⟨vs,q,r⟩:=h;exact⟨vs,q,all b r⟩
   ·obtain⟨vs,q,r⟩:=h;exact⟨vs,q,all b r⟩
  ·refine l f ?_ h;cases c<;>simp only[C.leaf,aaq] at f<;>simpa only[fU] using b
theorem rA (l:dm F L M) {M1:TL}{c j:C}{v:Value}(h:KE M M1 c j) (b:Rel F L c v):Rel F (vp L M1) j v:=by
 rcases h with rfl | ⟨rfl,m⟩ | ⟨rfl,rfl⟩ | ⟨rfl,k,t,sz,rfl,d,f⟩ | ⟨els,rfl,rfl⟩
 ·simp only[Rel]
 ·refine qH (fun k o d f=>?_) 3 m b;rw[j7];cases e:M1.get k with
  | none=>exact vv e d
  | some q=>simp only[f]
 ·exact tQ (c:=.nils) (by simpa only[Rel] using b)
 ·simp only[Rel] at b ⊢;subst b;refine⟨none,0,t,sz,0,[],rfl,?_⟩;rw[j7,f];simp only[cj l d]
 ·simpa only[Rel] using uM b
theorem Cn (j:dm F L M) {M1:TL}:∀{cs cs':List C}{vs:List Value},Ib M M1 cs cs'->aF F L cs vs->aF F (vp L M1) cs' vs
 | [],cs',vs,h,b=>by simp only[Ib] at h;subst h;simpa only[aF] using b
 | c::cs,cs',vs,h,b=>by
  simp only[Ib] at h;obtain⟨n,k,rfl,m,l⟩:=h;simp only[aF] at b ⊢;obtain⟨v,f,rfl,d,e⟩:=b;exact⟨v,f,rfl,rA j m d,Cn j l e⟩
theorem LM (r:dm F L M) {M1:TL}{o o':TO}{p:Own}(h:S3 M M1 o o') (b:di F L o p):di F (vp L M1) o' p:=by
 rcases h with⟨rfl,j⟩ | ⟨t,cs,cs',rfl,rfl,h⟩
 ·cases o with
  | row t sz els=>cases p with
   | row=>exact b
   | box=>exact b.elim
  | map es=>cases p with
   | row=>exact b.elim
   | box=>exact b
  | win t pre cs post=>cases p with
   | row=>exact b.elim
   | box g n vs =>
    simp only[Ic] at j;obtain⟨x,v1,s,v3,e,d,f,u⟩:=b;have:=f.map (g:=id) (F':=F) (L':=vp L M1) (fun c m v l=>qH (fun k o d f=>by
     rw[j7];cases e:M1.get k with
     | none=>exact vv e d
     | some q=>simp only[f]) 3 (aas.1 j c m) l)
    exact⟨x,v1,s,v3,e,d,by simpa using this,u⟩
  | box t cs=>cases p with
   | row=>exact b.elim
   | box g n vs =>
    simp only[Ic] at j;refine⟨b.1,?_⟩;have:=b.2.map (g:=id) (F':=F) (L':=vp L M1) (fun c m v l=>qH (fun k o d f=>by
     rw[j7];cases e:M1.get k with
     | none=>exact vv e d
     | some q=>simp only[f]) 3 (aas.1 j c m) l)
    simpa using this
 ·cases p with
  | row=>exact b.elim
  | box g n vs=>exact⟨b.1,Cn r h b.2⟩
theorem tV (c:dm F L M) {M1:TL}(h:gives M M1 M1):dm F (vp L M1) M1:=by
 intro k;rw[j7];cases e:M1.get k with
 | none=>trivial
 | some o =>
  rcases Cm h e with⟨q,b,j⟩ | ⟨b,t,sz,rfl⟩
  ·rcases eK (c k) with⟨d,f⟩ | ⟨m,p,d,f,l⟩
   ·rw[d] at b;cases b
   ·rw[d] at b;injection b with b
    subst b;simp only[f];exact LM c j l
  ·simp only[cj c b];exact⟨rfl,rfl,rfl,⟨by simp,none,0,rfl,fun _=>rfl⟩,by simp only[aO]⟩
theorem tW (c:St F L w) (b:dm F L M) {M1:TL}(h:gives M M1 M1):St F (vp L M1) w/\Step F L w F (vp L M1) w:=⟨c.gives (uP b h),sB (uP b h)⟩
theorem jz:∀{l M1:TL},mX l M1=true->∀{k o},l.get k=some o->AW o=false->∃o',M1.get k=some o'
 | [],M1,h,k,o,e,_=>by cases e
 | (j,.box q p)::l,M1,h,k,o,e,b=>by
  simp only[mX] at h;split at h
  case h_2=>cases h
  rename_i f n c;simp only[TL.get] at e;split at e
  ·rename_i d;have:=xo d;subst this;exact⟨_,c⟩
  ·exact jz h e b
 | (j,.map es)::l,M1,h,k,o,e,b=>by
  simp only[mX] at h;split at h
  case h_2=>cases h
  rename_i m c;simp only[TL.get] at e;split at e
  ·rename_i d;have:=xo d;subst this;exact⟨_,c⟩
  ·exact jz h e b
 | (j,.win ..)::l,M1,h,k,o,e,b=>by
  simp only[mX] at h;split at h
  case h_2=>cases h
  rename_i f s n r c;simp only[TL.get] at e;split at e
  ·rename_i d;have:=xo d;subst this;exact⟨_,c⟩
  ·exact jz h e b
 | (j,.row ..)::l,M1,h,k,o,e,b=>by
  simp only[mX] at h;simp only[TL.get] at e;split at e
  ·injection e with e;subst e;cases b
  ·exact jz h e b
theorem xK:∀{l M1:TL},covers l M1=true->∀{k o},l.get k=some o->∃o',M1.get k=some o'
 | [],M1,h,k,o,e=>by cases e
 | (j,p)::l,M1,h,k,o,e=>by
  simp only[covers] at h;split at h
  case h_2=>cases h
  rename_i q c;simp only[TL.get] at e;split at e
  ·rename_i b;have:=xo b;subst this;exact⟨_,c⟩
  ·exact xK h e
theorem II {L':Loc}(c:aG L ρ a) (h:∀k g t cs,L.get k=some (.box g t cs)->∃cs',L'.get k=some (.box g t cs')):aG L' ρ a:=by
 refine⟨fun t=>?_,fun t k off e=>?_,c.el⟩
 ·rw[c.eq t];cases e:ρ t with
  | v x=>rfl
  | el a j=>rfl
  | own k off =>
   obtain⟨g,ty,cs,d⟩:=c.own t k off e;obtain⟨cs',b⟩:=h _ _ _ _ d;simp only[conc,d,b]
 ·obtain⟨g,ty,cs,d⟩:=c.own t k off e;obtain⟨cs',b⟩:=h _ _ _ _ d;exact⟨g,ty,cs',b⟩
theorem qI (m:St F L w) (l:aG L ρ a) (c:TS G F L ρ M τ) {M1:TL}(h:gives M M1 M1) (n:covers M M1=true) :
  St F (vp L M1) w/\aG (vp L M1) ρ a/\Step F L w F (vp L M1) w/\TS G F (vp L M1) ρ M1 τ/\Ext L (vp L M1):=by
 obtain⟨r,s⟩:=tW m c.tl h;have b:∀k o,L.get k=some o->(vp L M1).get k=some o:=by
  intro k o e;rcases eK (c.tl k) with⟨f,d⟩ | ⟨q,p,f,d,v⟩
  ·rw[d] at e;cases e
  ·obtain⟨o',u⟩:=xK n f;rw[j7,u];simp only[e]
 refine⟨r,II l fun k g t cs e=>⟨cs,b _ _ e⟩,s,⟨tV c.tl h,fun j=>(c.env j).ext (aD.le_refl F) fun k o e=>⟨o,b k o e,Own.ZD o⟩,fun k g t e=>?_,c.glob⟩,fun k o e=>⟨o,b k o e,Own.ZD o⟩⟩;obtain⟨cs,h⟩:=c.kp k g t e;exact⟨cs,b _ _ h⟩
theorem Ph {F:aD}{args:List C}{vs:List Value}(ha:aF F L args vs):aF F (inp []) (args.map fun c=>c.ZG.ren (cD [] 1000)) vs :=
 ha.map fun c _ v b=>(iP b).ren (fun j m e=>by cases e)
theorem Ta {F:aD}{L:Loc}{args:List C}{vs:List Value}{f:Nat}{o:Own}(k:L.get f=some o) (ha:aF F L args vs):aF F (inp [o]) (args.map fun c=>c.ZG.ren (cD [f] 1000)) vs :=
 ha.map fun c _ v h=>(iP h).ren (fun j m e o' b=>by
  obtain⟨n,d,rfl⟩:=AV e;cases n with
  | zero =>
   simp only[aat,yo] at d;subst d;rw[k] at b;injection b with b
   subst b;rfl
  | succ n=>simp at d)
theorem DS:dm F (inp []) (jn []):=fun k=>by rw[cA,aW];split<;>simp[Ie]
theorem hO.ZL {Li:List Own}{R:List TO->C->Prop}:∀F G L v,aD.le F G->hO Li R F L v->hO Li R G L v:=by
 rintro F G L v b ⟨Mo,c,e,j,d,f,h⟩;exact⟨Mo,c,e,j.mono b,d.mono b,f,h⟩
theorem uQ {f:Nat}{args:List C}{vs:List Value}{d:Option Nat}{K:TL->aX->C->Prop}(u:TS G F L ρ M τ) (ha:aF F L args vs) (h:w8 P f args M τ d K) :
  eI P f vs F L d (fun F' L' v=>∃M' an c,TS G F' L' ρ M' an/\aQ F' L' c (.v v)/\K M' an c):=by
 cases h with
 | frz R h k =>
  refine .frz (hO [] R) (h.out F [] vs rfl DS (Ph ha)) ?_;rintro v F' Lo l ⟨Mo,c,q,r,b,q4,z⟩;obtain⟨rfl,k2⟩:=k c Mo z b.wf;have:Lo=[]:=List.length_eq_zero_iff.1 (by rw[<-q];rfl);subst this;exact⟨rfl,fun _=>⟨M,τ,_,u.mono l,jZ (b.ext (aD.le_refl F') (fun k o e=>by rw[aW] at e;split at e<;>simp at e)),k2⟩⟩
 | own R k h hd hk kk =>
  refine .own (hO [] R) k (h.out F [] vs rfl DS (Ph ha)) hd (cj u.tl hk) ?_;rintro v F' Lo l ⟨Mo,c,q,r,b,q4,z⟩;have bl:∀o∈Mo,o.Wf:=by
   intro o ho;obtain⟨i,hi⟩:=aaE.1 ho;have ba:i<Lo.length:=by rw[<-q];exact(aai.1 hi).1
   have:=r (1000+i);rw[cA,aW,o6 (by omega),o6 (by omega),show 1000+i-1000=i by omega,hi,aag ba] at this;exact di.wf this
  obtain⟨o,rfl,k2⟩:=kk c Mo z b.wf bl
  match Lo,q with
  | [p],_ =>
   have n:∀j m,aZ [k] j=some m->∀o,(inp [p]).get j=some o->(L.set k p).get m=some o:=by
    intro j m hj o ho;obtain⟨a1,a2⟩:=mM hj;rw[aW,o6 a1] at ho;have:j-1000=0:=by have:=(aai.1 a2).1;simp at this;omega
    rw[this] at ho a2;simp at ho a2;subst ho a2;rw[Loc.Zz,o6 rfl]
   have ar:=r 1000;rw[cA,aW,o6 (by omega),o6 (by omega)] at ar;refine⟨p,rfl,fun _=>⟨_,τ,_,u.new l (cj u.tl hk) (di.ren n ar),jZ (b.ren n),k2⟩⟩
 | row R kr t sz els al hk h kk =>
  obtain⟨rv,xs,hL,⟨hm,av,cv,rfl,bs⟩,hr⟩:=kQ u.tl hk;refine .row (fun F' Lo v=>Lo=[]/\hO [] R F' [] v) kr _ t sz els.length xs ⟨al,fun F1 F2 L v aE s=>⟨s.1,hO.ZL _ _ _ _ aE s.2⟩,fun w hs=>?_⟩ hL ?_
  ·have bm:aG (inp [.row (.slice av els.length cv) t sz els.length xs]) (fun _=>.v undef) (⟨#[],[]⟩:Act):=by
    refine⟨fun j=>?_,fun j k off e=>(by cases e),fun j a i e=>(by cases e)⟩;simp[conc]
   obtain⟨F2,L2,g1,_,g3,l,y,rfl⟩:=oq (k:=1000) (KK:=fun F' L'=>F.le F'/\Hj F' (.slice av els.length cv) sz els.length xs/\L'=(inp [.row (.slice av els.length cv) t sz els.length xs]).del 1000) hs bm ⟨_,_,_,_,_,rfl,fun F' l y=>⟨l,y,rfl⟩⟩;have ao:Rel F2 (L.del kr) (.sl els) (.slice av els.length cv):=by
    simp only[Rel];rcases y with⟨e1,e2,e3⟩ | ⟨ad,c2,e1,e2,e3⟩
    ·injection e1 with q r b
     have:els=[]:=List.length_eq_zero_iff.1 r;subst this;exact⟨av,cv,rfl,by simp,by simp,fun _=>⟨rfl,b⟩,sz,by simp only[gF]⟩
    ·injection e1 with q r b
     subst q b;exact⟨some ad,cv,rfl,e3,hm,fun e=>(by cases e),sz,(hr.mono l).frz e2⟩
   obtain⟨l1,_⟩:=Cl l hL ao;have be:aF F2 (L.del kr) (args.map (C.frz kr els)) vs:=ha.map fun c _ v hc=>Rel.mp l1 3 hc;have am:=Ph be;rw[aa6] at am;refine((h.out F2 [] vs rfl DS am).run w g1).mono ?_;rintro e w' ⟨v,F',Lo,rfl,bk,bb,s⟩;have bc:Lo=[]:=by
    obtain⟨Mo,c,q,r,b,q4,z⟩:=s;obtain⟨rfl,_⟩:=kk c Mo z b.wf;exact List.length_eq_zero_iff.1 (by rw[<-q];rfl)
   subst bc;exact⟨v,F',[],rfl,bk,g3.trans bb,rfl,s⟩
  ·rintro v F' Lo l ⟨rfl,Mo,c,q,r,b,q4,z⟩;obtain⟨rfl,k2⟩:=kk c Mo z b.wf;refine⟨rfl,fun _=>⟨_,_,_,(u.mono l).ZU (k:=kr) (o':=.row (.slice none 0 0) t sz 0 []) (to:=.row t sz []) (fun g t' cs e=>by rw[hL] at e;injection e with e;cases e) ⟨rfl,rfl,rfl,⟨aaK _,none,0,rfl,fun _=>rfl⟩,by simp only[aO]⟩,jZ (b.ext (aD.le_refl F') (fun k o e=>by rw[aW] at e;split at e<;>simp at e)),k2⟩⟩
 | lent kr t sz els x hk h k =>
  obtain⟨rv,xs,hL,ab,hr⟩:=kQ u.tl hk;refine .lent (fun F' v=>Rel F' (inp []) x v) kr rv t sz els.length xs (h.out F rv xs vs ⟨rfl,rfl,rfl,ab,hr⟩ (Ta hL ha)) hL fun v F' l s _=>?_;exact⟨M,τ,_,u.mono l,jZ (s.ext (aD.le_refl F') (fun k o e=>by rw[aW] at e;split at e<;>simp at e)),k s.wf⟩
def kS:eP->Bool
 | .call _ _=>true
 | .callV _ _=>true
 | _=>false
theorem TS.ZK {F:aD}{L:Loc}{ρ:Env}{M:TL}{τ:aX}{K:TK}{d:Option Nat}(e:TS G F L ρ M τ) {c:C}{sv:SV}(b:aQ F L c sv) (h:K M (bE d c τ)):Both G K F L (Fr.put d sv ρ):=⟨_,_,e.put b d,h⟩
theorem jG (h:∀j,aQ F L (τ j) (ρ j)) {fi ca:List C}{b c:List Value}(e:aF F L fi b) (d:aF F L ca c) (args:List X):aF F L (fi++eD τ args++ca) (b.toArray.toList++bq L ρ args++c.toArray.toList):=by
 simpa using(e.append (cZ h args)).append d
theorem dH.imp {f:Nat}{args:List Value}{F:aD}{L:Loc}{K K':aD->Loc->Value->Prop}(h:dH P f args F L K) (n:∀F' L' v,K F' L' v->K' F' L' v):dH P f args F L K':=by
 obtain⟨ks,ko,Lin,R,k,l,p,e,j,m⟩:=h;exact⟨ks,ko,Lin,R,k,l,p,e,j,fun v F' Lo o d=>let⟨a,b,c⟩:=m v F' Lo o d;⟨a,b,n _ _ _ c⟩⟩
theorem eI.imp' {f:Nat}{args:List Value}{F:aD}{L:Loc}{d:Option Nat}{K K':aD->Loc->Value->Prop}(h:eI P f args F L d K) (p:∀F' L' v,K F' L' v->K' F' L' v):eI P f args F L d K':=by
 cases h with
 | frz R h k=>exact .frz R h fun v F' Lo l e=>let⟨a,b⟩:=k v F' Lo l e;⟨a,fun j=>p _ _ _ (b j)⟩
 | own R k h s c m=>exact .own R k h s c fun v F' Lo l e=>let⟨o,a,b⟩:=m v F' Lo l e;⟨o,a,fun j=>p _ _ _ (b j)⟩
 | row R r q t sz n xs h c m=>exact .row R r q t sz n xs h c fun v F' Lo l e=>let⟨a,b⟩:=m v F' Lo l e;⟨a,fun j=>p _ _ _ (b j)⟩
 | lent R r q t sz n xs h c m=>exact .lent R r q t sz n xs h c fun v F' l e j=>p _ _ _ (m v F' l e j)
theorem IJ {op:BinOp}{k:IntKind}{a b:Int}{K K':Value->Prop}(h:binI op k a b K) (c:∀v,K v->K' v):binI op k a b K':=by
 cases op<;>simp only[binI] at h ⊢<;>first
  | exact h.elim
  | exact⟨c _ h.out⟩
  | exact⟨h.ne,⟨c _ h.out.out⟩⟩
  | exact⟨h.ne,c _ h.out⟩
  | exact c _ h
theorem LN {op:BinOp}{k:IntKind}{a b:Int}{K K':Value->Prop}(h:shI op k a b K) (c:∀v,K v->K' v):shI op k a b K':=by
 cases op<;>simp only[shI] at h ⊢<;>first
  | exact h.elim
  | exact⟨h.1,⟨c _ h.2.out⟩⟩
  | exact⟨h.1,c _ h.2⟩
theorem IK {op:BinOp}{a b:ByteArray}{K K':Value->Prop}(h:binS op a b K) (c:∀v,K v->K' v):binS op a b K':=by
 cases op<;>simp only[binS] at h ⊢<;>first
  | exact h.elim
  | exact c _ h
  | exact⟨h.1,c _ h.2⟩
theorem Co {o:eP}{V V':SV->Prop}{F:aD}{L:Loc}{ρ:Env}(h:aL o F L ρ V) (d:∀v,V v->V' v):aL o F L ρ V':=by
 have load:∀{a:Option Addr}{j n:Nat}{g:List Value->SV},jM F L a j n (fun cs=>V (g cs))->jM F L a j n (fun cs=>V' (g cs)):=fun h=>⟨let⟨cs,e,f,m⟩:=h.out;⟨cs,e,f,d _ m⟩⟩;have loadD:∀{a:Option Addr}{j n:Nat}{g:List Value->SV},iS F a j n (fun cs=>V (g cs))->iS F a j n (fun cs=>V' (g cs)):=fun h=>⟨let⟨cs,e,f,m⟩:=h.out;⟨cs,e,f,d _ m⟩⟩;cases o<;>simp only[aL] at h ⊢<;>first
  | exact h.elim
  | exact d _ h
  | skip
 case pick c a b =>
  generalize ev ρ c=z at h ⊢;split at h<;>first | exact h.elim | exact d _ h
 case build zs ps =>
  generalize built L ρ zs ps=z at h ⊢;split at h<;>first | exact h.elim | exact d _ h
 case load agg n x =>
  generalize ev ρ x=z at h ⊢;split at h
  ·rename_i k off;generalize L.get k=y at h ⊢;split at h
   ·rename_i t cs;generalize jg t ((cs.drop off).take n) n=b at h ⊢;cases b
    ·exact h.elim
    ·exact d _ h
   ·exact h.elim
  ·exact load h
  ·exact load h
  ·exact h.elim
 case loadR agg n x =>
  generalize ev ρ x=z at h ⊢;split at h
  ·rename_i k off;generalize L.get k=y at h ⊢;split at h
   ·rename_i t cs;generalize jg t ((cs.drop off).take n) n=b at h ⊢;cases b
    ·exact h.elim
    ·exact d _ h
   ·exact h.elim
  ·exact load h
  ·exact load h
  ·exact h.elim
 case loadD agg n x =>
  generalize ev ρ x=z at h ⊢;split at h
  ·rename_i k off;generalize L.get k=y at h ⊢;split at h
   ·rename_i t cs;generalize jg t ((cs.drop off).take n) n=b at h ⊢;cases b
    ·exact h.elim
    ·exact d _ h
   ·exact h.elim
  ·exact loadD h
  ·exact loadD h
  ·exact h.elim
 case gload g =>
  obtain⟨v,t,fr,e,f⟩:=h;exact⟨v,t,fr,e,d _ f⟩
 case loadF agg n x =>
  generalize ev ρ x=z at h ⊢;split at h
  ·exact loadD h
  ·exact loadD h
  ·exact h.elim
 case loadK key agg n x =>
  generalize ev ρ x=z at h ⊢;split at h
  ·rename_i k off;generalize Nat.beq k key=q at h ⊢;cases q
   ·exact h.elim
   ·simp only[] at h ⊢;generalize L.get k=y at h ⊢;split at h
    ·rename_i t cs;generalize jg t ((cs.drop off).take n) n=b at h ⊢;cases b
     ·exact h.elim
     ·exact d _ h
    ·exact h.elim
  ·exact h.elim
 case mlook str ok z0 x i =>
  generalize ev ρ x=z at h ⊢;split at h
  ·obtain⟨k,cs,e,f,⟨m⟩⟩:=h;exact⟨k,cs,e,f,⟨m.imp (fun⟨i,v,p,u⟩=>⟨i,v,p,d _ u⟩) fun⟨p,u⟩=>⟨p,d _ u⟩⟩⟩
  ·exact h.elim
 case mlen x =>
  generalize ev ρ x=z at h ⊢;split at h
  ·obtain⟨k,cs,e,f,m⟩:=h;exact⟨k,cs,e,f,d _ m⟩
  ·exact h.elim
 case b2sD x =>
  generalize ev ρ x=z at h ⊢;split at h
  ·exact⟨let⟨cs,e,f,⟨bs,m,p⟩⟩:=h.out;⟨cs,e,f,⟨bs,m,d _ p⟩⟩⟩
  ·exact h.elim
 case b2sR x =>
  generalize ev ρ x=z at h ⊢;split at h
  ·exact⟨let⟨k,t,c,bs,e,f,m,p⟩:=h.out;⟨k,t,c,bs,e,f,m,d _ p⟩⟩
  ·exact h.elim
 case mkif t x =>
  generalize ev ρ x=z at h ⊢;split at h<;>first
   | exact h.elim
   | exact d _ h
   | (split at h
      ·exact d _ h
      ·exact h.elim)
 case nilck x =>
  generalize ev ρ x=z at h ⊢;split at h<;>first
   | exact h.elim
   | exact d _ h
   | exact⟨h.1,d _ h.2⟩
   | (split at h
      ·exact⟨h.1,d _ h.2⟩
      ·exact h.elim)
 case mkmv nm x =>
  generalize ev ρ x=z at h ⊢;split at h<;>first | exact h.elim | exact d _ h
 case bin op x y =>
  generalize ev ρ x=z at h ⊢;generalize ev ρ y=z' at h ⊢;split at h
  ·rename_i k a k' b;generalize Hh op=q at h ⊢;cases q
   ·generalize qf k k'=r at h ⊢;cases r
    ·exact h.elim
    ·exact IJ h fun v=>d _
   ·exact LN h fun v=>d _
  ·exact IK h fun v=>d _
  ·exact h.elim
 case eqB neg x y =>
  generalize ev ρ x=z at h ⊢;generalize ev ρ y=z' at h ⊢;split at h<;>first | exact h.elim | exact d _ h
 case eqP neg x y =>
  generalize ev ρ x=z at h ⊢;generalize ev ρ y=z' at h ⊢;split at h<;>first | exact h.elim | exact d _ h
 case eqS neg x y =>
  generalize ev ρ x=z at h ⊢;generalize ev ρ y=z' at h ⊢;split at h<;>first | exact h.elim | exact d _ h
 case eqF neg x y =>
  generalize ev ρ x=z at h ⊢;generalize ev ρ y=z' at h ⊢;split at h<;>first | exact h.elim | exact d _ h
 case tas t z x =>
  generalize ev ρ x=y at h ⊢;split at h<;>first
   | exact d _ h
   | (split at h<;>exact d _ h)
   | exact h.elim
 case eqN neg x =>
  generalize ev ρ x=z at h ⊢;split at h<;>first | exact h.elim | exact d _ h
 case eqA neg ks x y =>
  generalize ev ρ x=z at h ⊢;generalize ev ρ y=z' at h ⊢;split at h
  case h_2=>exact h.elim
  rename_i cs ds;generalize jh ks cs.toList ds.toList true=q at h ⊢;cases q with
  | none=>exact h.elim
  | some b=>exact d _ h
 case un op x =>
  generalize ev ρ x=z at h ⊢;split at h<;>first | exact h.elim | exact d _ h | exact⟨d _ h.out⟩
 case conv k x =>
  generalize ev ρ x=z at h ⊢;split at h<;>first | exact h.elim | exact⟨d _ h.out⟩
 case b2s x =>
  generalize ev ρ x=z at h ⊢;split at h
  ·exact⟨let⟨cs,e,f,⟨bs,m,p⟩⟩:=h.out;⟨cs,e,f,⟨bs,m,d _ p⟩⟩⟩
  ·exact h.elim
 case slc sz x lo hi =>
  generalize ev ρ x=z at h ⊢;split at h
  ·rename_i a n c;generalize jI ρ 0 lo=y at h ⊢;generalize jI ρ n hi=y' at h ⊢;split at h
   ·exact⟨h.lo,h.le,h.hi,d _ h.out⟩
   ·exact h.elim
  ·exact h.elim
 case slcS x lo hi =>
  generalize ev ρ x=z at h ⊢;split at h
  ·rename_i s;generalize jI ρ 0 lo=y at h ⊢;generalize jI ρ s.size hi=y' at h ⊢;split at h
   ·exact⟨h.lo,h.le,h.hi,d _ h.out⟩
   ·exact h.elim
  ·exact h.elim
 case fieldA off x =>
  generalize ev ρ x=z at h ⊢;split at h<;>first | exact h.elim | exact d _ h
 case fieldV agg off n x =>
  generalize ev ρ x=z at h ⊢;split at h
  ·rename_i cs;generalize fM ((cs.toList.drop off).take n) n=b at h ⊢;cases b
   ·exact h.elim
   ·exact d _ h
  ·exact h.elim
 case idxA sz x i =>
  generalize ev ρ x=z at h ⊢;generalize ev ρ i=z' at h ⊢;split at h
  ·exact⟨h.ne,h.lo,h.hi,d _ h.out⟩
  ·exact h.elim
 case idxS x i =>
  generalize ev ρ x=z at h ⊢;generalize ev ρ i=z' at h ⊢;split at h
  ·exact⟨h.lo,h.hi,d _ h.out⟩
  ·exact h.elim
 case extr x i =>
  generalize ev ρ x=z at h ⊢;split at h
  ·rename_i vs;generalize vs.toList[i]?=y at h ⊢;cases y
   ·exact h.elim
   ·exact d _ h
  ·exact h.elim
 case len x =>
  generalize ev ρ x=z at h ⊢;split at h<;>first | exact h.elim | exact d _ h
 case lenS x =>
  generalize ev ρ x=z at h ⊢;split at h<;>first | exact h.elim | exact d _ h
 case capa x =>
  generalize ev ρ x=z at h ⊢;split at h<;>first | exact h.elim | exact d _ h
 case mm mx args =>
  generalize args.map (ev ρ)=z at h ⊢;split at h
  ·rename_i k a l;generalize Ny mx a l=y at h ⊢;cases y
   ·exact h.elim
   ·exact d _ h
  ·exact h.elim
theorem Pj {o:eP}{d:Option Nat}{K:TK}{F:aD}{L:Loc}{ρ:Env}{M:TL}{τ:aX}(b:TS G F L ρ M τ) (h:outT o M τ fun v=>K M (bE d v τ)):aL o F L ρ (fun v=>Both G K F L (Fr.put d v ρ)) :=
 Co (S8 b h) fun sv ⟨c,f,e⟩=>b.ZK f e
set_option maxHeartbeats 1000000 in
theorem LO {str:Bool}{c:C}(h:H8 str c=true):(∃n,str=false/\c=.int .i64 n)\/∃s,str=true/\c=.str s:=by
 unfold H8 at h;split at h
 ·exact .inl ⟨_,rfl,rfl⟩
 ·exact .inr ⟨_,rfl,rfl⟩
 ·cases h
theorem EP {F:aD}{str:Bool}{key c:C}{kv v:Value}(f:Rel F [] key kv) (m:Rel F [] c v):∀{es es':List (C×C)}{vs:List Value},jy F es vs->H9 str key c es=some es'->∃b,wC str kv v vs=some b/\jy F es' b
 | [],es',vs,h,e=>by
  simp only[jy] at h;subst h;simp only[H9,yo] at e;subst e;exact⟨_,rfl,by simp only[jy];exact⟨kv,v,[],rfl,f,m,rfl⟩⟩
 | (k,d)::l,es',vs,h,e=>by
  simp only[jy] at h;obtain⟨u,x,b,rfl,n,s,o⟩:=h;simp only[H9] at e;split at e
  ·rename_i j;injection e with e
   subst e;exact⟨_,by simp only[wC,qD j f n];rfl,by simp only[jy];exact⟨kv,v,b,rfl,f,m,o⟩⟩
  ·rename_i j;split at e
   case h_2=>cases e
   rename_i y t;injection e with e
   subst e;obtain⟨p,q,r⟩:=EP f m o t;exact⟨_,by simp only[wC,qD j f n,q];rfl,by simp only[jy];exact⟨u,x,p,rfl,n,s,r⟩⟩
  ·cases e
theorem Gl {F:aD}{L:Loc}{c:C}{v:Value}(h:Rel F L c.cel v) (b:dV (cg c)=true):Rel F [] c.cel.ZG v:=by
 have leaf:dV [c]=true->Rel F L c v->Rel F [] c v:=fun b h=>by
  have:=eS (L':=[]) b (show aF F L [c] [v] by simp only[aF];exact⟨v,[],rfl,h,rfl⟩);simp only[aF] at this;obtain⟨u,us,e,d,_⟩:=this;injection e with e1 e2
  rw[e1];exact d
 cases c
 case agg cs =>
  simp only[C.cel,cg] at h b ⊢;refine iP ?_;simp only[Rel] at h ⊢;obtain⟨vs,d,f⟩:=h;exact⟨vs,d,eS b f⟩
 case ownv k o=>simp[cg,dV,C.pure,C.ZH] at b
 case elr k j o=>simp[cg,dV,C.pure,C.ZH] at b
 case slp k o j=>simp[cg,dV,C.pure,C.ZH] at b
 case slo k o=>simp[cg,dV,C.pure,C.ZH] at b
 all_goals
  simp only[C.cel,cg] at h b ⊢;exact iP (leaf b h)
theorem IL {o:eP}{d:Option Nat}{K:TK}{F:aD}{L:Loc}{ρ:Env}{M:TL}{τ:aX}(ho:kS o=false) (l:TS G F L ρ M τ) (h:bN P o d M τ K):evalOp P o d F L ρ (Both G K):=by
 have z:=l.env;cases o
 case call=>cases ho
 case callV=>cases ho
 case box t x =>
  simp only[bN,fu,eV,dX] at h;simp only[evalOp];split at h
  case h_2=>exact h.elim
  rename_i k;split at h
  case h_2=>exact h.elim
  rename_i hk hc hb;simp only[cj l.tl hk];exact fun g=>EM l hk hc (AU hb) h g
 case boxD t x =>
  simp only[bN,fu,eV,dX] at h;simp only[evalOp];split at h
  case h_2=>exact h.elim
  rename_i k;split at h
  case h_2=>exact h.elim
  rename_i hk hc hb;simp only[cj l.tl hk];exact fun g _=>EM l hk hc (AU hb) h g
 case boxF t x =>
  simp only[bN,fu,eV,dX] at h;simp only[evalOp];split at h
  case h_2=>exact h.elim
  rename_i m j p;intro g F' hF hg;exact(l.mono hF).ZK (Pg hg (m8 j) (j5 ((eS p (dY z m)).mono hF))) h
 case alloc t zs =>
  simp only[bN,fu,eV,dX] at h;simp only[evalOp];split at h
  case h_2=>exact h.elim
  rename_i k;split at h
  case h_2=>exact h.elim
  rename_i hk hb;simp only[cj l.tl hk];exact fun g=>zG l hk (AU hb) h g
 case allocD t zs =>
  simp only[bN,fu,eV,dX] at h;simp only[evalOp];split at h
  case h_2=>exact h.elim
  rename_i k;split at h
  case h_2=>exact h.elim
  rename_i hk hb;simp only[cj l.tl hk];exact fun g _=>zG l hk (AU hb) h g
 case mkF e n sz xs =>
  simp only[bN,fu,eV,dX] at h;simp only[evalOp];split at h
  ·rename_i m j p;rw[(jF z m).1];exact fun g F' hF hg=>EN l m (xo j) (aav p) h hF hg
  ·rename_i m j p;split at h
   case h_2=>exact h.elim
   rename_i bb;obtain rfl:=xo bb;split at h
   case h_2=>exact h.elim
   split at h
   case h_2=>exact h.elim
   rename_i bi ho;obtain⟨q1,q2⟩:=EO (e:=e) l ho (by simp) (xo j) (aav p) h;rw[q1];exact fun g F' hF hg=>q2 hF hg
  ·exact h.elim
 case mkFD e n sz xs =>
  simp only[bN,fu,eV,dX] at h;simp only[evalOp];split at h
  ·rename_i m j p;rw[(jF z m).1];exact fun g F' hF hg _=>EN l m (xo j) (aav p) h hF hg
  ·rename_i m j p;split at h
   case h_2=>exact h.elim
   rename_i bb;obtain rfl:=xo bb;split at h
   case h_2=>exact h.elim
   split at h
   case h_2=>exact h.elim
   rename_i bi ho;obtain⟨q1,q2⟩:=EO (e:=e) l ho (by simp) (xo j) (aav p) h;rw[q1];exact fun g F' hF hg _=>q2 hF hg
  ·exact h.elim
 case mkR e n sz xs =>
  simp only[bN,fu,eV,dX] at h;simp only[evalOp];split at h
  case h_2=>exact h.elim
  rename_i k m j p;split at h
  case h_2=>exact h.elim
  rename_i hk;rw[(jF z m).1];simp only[cj l.tl hk];exact fun g=>LK l m (xo j) (aav p) hk h g
 case s2b e x =>
  simp only[bN,fu,eV,dX] at h;simp only[evalOp];split at h
  case h_2=>exact h.elim
  rename_i s hx;obtain⟨e1,e2⟩:=jY z hx;rw[e1];intro g c F' hF hf hc;have hl:(af s.data.toList).length=s.size:=by simp[af]
  have:=EK (F:=F') (L:=L) (els:=af s.data.toList) (a:=some ⟨g,0,none⟩) (c:=c) (sz:=1) (by rw[hl];exact hc) (by rw[hl];exact e2) (fun e=>by cases e) (DM hf);rw[hl] at this;exact(l.mono hF).ZK this h
 case makeS=>exact Gk l h
 case store n y x=>exact DN l h
 case storeD n y x=>exact xu l h
 case storeK key n y x =>
  simp only[bN] at h;split at h
  case h_2=>exact h.elim
  rename_i k off hy;split at h
  case h_2=>exact h.elim
  rename_i hb;obtain⟨n',a',x',k',ch,g,t,cs,ho,e1,e2,e3,e4,e5,hK⟩:=iV (P:=P) rfl (xu l h);rcases ho with ho | ho
  ·injection ho with q1 q2 q3
   subst q1 q2 q3;rw[(fo z hy).1] at e3;injection e3 with q1 q2
   subst q1 q2;have hb:=xo hb;subst hb;exact iL (.inr rfl) e1 e2 (fo z hy).1 e4 e5 hK
  ·cases ho
 case makeSD e sz n zs =>
  simp only[bN] at h;split at h
  case h_2=>exact h.elim
  rename_i k;split at h
  case h_2=>exact h.elim
  rename_i hk m j p;have ab:=cj l.tl hk;have am:zs.length=sz:=by have:=bD m;simpa using this
  simp only[evalOp,ab,dw am,p];intro g _;have hz:aF F [] ((zs.map rU).map C.can) zs:=j5 (lF zs);have aE:dP (zs.map rU)=true->∀i:Nat,aO F sz (List.replicate i ((zs.map rU).map C.can)) (List.replicate i zs).flatten:=by
   intro j i
   induction i with
   | zero=>simp only[List.replicate_zero,List.flatten_nil,aO]
   | succ i ih =>
    simp only[aa3,List.flatten_cons,aO];exact⟨zs,_,rfl,am,m8 j,hz,ih⟩
  have an:∀i:Nat,i=n->aO F sz (List.replicate i ((zs.map rU).map C.can)) (List.replicate i zs).flatten:=by
   intro i hi;rw[aaM] at j;rcases j with j | j
   ·have j:=xo j;rw[hi,j];simp only[List.replicate_zero,List.flatten_nil,aO]
   ·exact aE j i
  have p:=l.new (aD.le_refl F) ab (o:=.row (.slice (some ⟨g,0,none⟩) n n) e sz n (List.replicate n zs).flatten) (to:=.row e sz (List.replicate n ((zs.map rU).map C.can)))
   ⟨rfl,rfl,by simp,⟨aav p,_,_,rfl,fun e=>(by cases e)⟩,an _ rfl⟩
  exact⟨_,_,p.put (c:=.rw k) (nI (by rw[Loc.Zz,o6 rfl])) (some k),h⟩
 case makeSV e sz b zs x =>
  simp only[bN] at h;split at h
  case h_2=>exact h.elim
  rename_i ki n k hx;split at h
  case h_2=>exact h.elim
  rename_i hk m j;have ab:=cj l.tl hk;have am:zs.length=sz:=by have:=bD m;simpa using this
  obtain⟨m1,_,m3,m4,h⟩:=h;have hv:val L ρ x=.int ki n:=by rw[val,(eX z hx).1];rfl
  have ba:tu b (val L ρ x)=true:=by
   rw[hv,tu,aaj,aaj];exact⟨⟨Nat.ble_eq_true_of_le m3,Nat.ble_eq_true_of_le m4⟩,decide_eq_true m1⟩
  have hc:mO (val L ρ x)=n.toNat:=by rw[hv];rfl
  simp only[evalOp,ab,dw am,ba];rw[hc];intro g _;have hz:aF F [] ((zs.map rU).map C.can) zs:=j5 (lF zs);have an:∀i:Nat,aO F sz (List.replicate i ((zs.map rU).map C.can)) (List.replicate i zs).flatten:=by
   intro i
   induction i with
   | zero=>simp only[List.replicate_zero,List.flatten_nil,aO]
   | succ i ih =>
    simp only[aa3,List.flatten_cons,aO];exact⟨zs,_,rfl,am,m8 j,hz,ih⟩
  have p:=l.new (aD.le_refl F) ab (o:=.row (.slice (some ⟨g,0,none⟩) n.toNat n.toNat) e sz n.toNat (List.replicate n.toNat zs).flatten) (to:=.row e sz (List.replicate n.toNat ((zs.map rU).map C.can)))
   ⟨rfl,rfl,by simp,⟨m4,_,_,rfl,fun e=>(by cases e)⟩,an _⟩
  exact⟨_,_,p.put (c:=.rw k) (nI (by rw[Loc.Zz,o6 rfl])) (some k),h⟩
 case callD f args =>
  simp only[bN,fu,eV,dX] at h;simp only[evalOp];refine eI.imp' (uQ l (cZ z args) h) ?_;rintro F' L' v ⟨M',q,c,m,j,p⟩;exact m.ZK j p
 case callVD f args =>
  simp only[bN,fu,eV,dX] at h;simp only[evalOp];split at h
  ·rename_i f' fi ca hx;obtain⟨bv,bt,e1,m,j⟩:=sP z hx;rw[e1];refine eI.imp' (uQ l (jG z m j args) h) ?_;rintro F' L' v ⟨M',q,c,m,j,p⟩;exact m.ZK j p
  ·rename_i nm c hx;split at h
   case h_2=>exact h.elim
   rename_i t c;obtain⟨u,e1,hr⟩:=xj z hx;simp only[Rel] at hr;obtain⟨u',rfl,hu⟩:=hr;obtain⟨f',hm,h⟩:=h;have e2:lZ P (ev ρ f)=some (f',[u'],[]):=by rw[e1];simp only[lZ,hm]
   rw[e2];have aw:aF F L (c::eD τ args) ([u']++bq L ρ args++[]):=by
    rw[aaA];simp only[aay,aaP,aF];exact⟨_,_,rfl,hu.lift,cZ z args⟩
   refine eI.imp' (uQ l aw h) ?_;rintro F' L' v ⟨M',q,c,m,j,p⟩;exact m.ZK j p
  ·exact h.elim
 case callO f args =>
  simp only[bN,fu,eV,dX] at h;simp only[evalOp];cases h with
  | mk h =>
   obtain⟨ks,ko,Lin,R,m,j,p,h4,h5,h6,h7⟩:=h;refine dH.imp (ru (K:=fun M' q v=>K M' (bE d v q)) l (cZ z args) m j p h4 h5 h6 h7) ?_;rintro F' L' v ⟨M',q,c,m,j,p⟩ _;exact m.ZK j p
  | inpl ks Lin R m j p h4 =>
   refine dH.imp (uO (K:=fun M' q v=>K M' (bE d v q)) l (cZ z args) m j p h4) ?_;rintro F' L' v ⟨M',q,c,m,j,p⟩ _;exact m.ZK j p
 case callVO f args =>
  simp only[bN,fu,eV,dX] at h;simp only[evalOp];split at h
  case h_2=>exact h.elim
  rename_i f' fi ca hx;obtain⟨bv,bt,e1,g1,g2⟩:=sP z hx;rw[e1];cases h with
  | mk h =>
   obtain⟨ks,ko,Lin,R,m,j,p,h4,h5,h6,h7⟩:=h;refine dH.imp (ru (K:=fun M' q v=>K M' (bE d v q)) l (jG z g1 g2 args) m j p h4 h5 h6 h7) ?_;rintro F' L' v ⟨M',q,c,m,j,p⟩ _;exact m.ZK j p
  | inpl ks Lin R m j p h4 =>
   refine dH.imp (uO (K:=fun M' q v=>K M' (bE d v q)) l (jG z g1 g2 args) m j p h4) ?_;rintro F' L' v ⟨M',q,c,m,j,p⟩ _;exact m.ZK j p
 case look x i =>
  simp only[bN] at h;simp only[evalOp];split at h
  case h_2=>exact h.elim
  rename_i k n hx hi;split at h
  case h_2=>exact h.elim
  rename_i r b hl;obtain⟨mv,e1,hm⟩:=AL z hx;obtain⟨e2,_⟩:=eX z hi;rw[e1,e2];refine⟨k,r,b,hm,hl,l.ZK (c:=.tup [.int .i64 r,.bool b]) ⟨_,rfl,?_⟩ h⟩;simp only[Rel,aF];exact⟨_,rfl,_,_,rfl,⟨rfl,BA hl⟩,_,_,rfl,rfl,rfl⟩
 case app=>exact LL l h
 case appX=>exact Ir l h
 case appD=>exact Iu l h
 case appS=>exact Iv l h
 case appZ=>exact Iw l h
 case mkmap =>
  simp only[bN] at h;simp only[evalOp];split at h
  case h_2=>exact h.elim
  rename_i k;split at h
  case h_2=>exact h.elim
  rename_i hk;have ab:=cj l.tl hk;simp only[ab];intro g;have m:=l.new (aD.le_refl F) ab (o:=.box g 0 []) (to:=.map []) ⟨rfl,rfl⟩;exact⟨_,_,m.put (c:=.mpr k) (sv:=.v (.map (some g))) ⟨_,rfl,by simp only[Rel];exact⟨g,[],by rw[Loc.Zz,o6 rfl],rfl⟩⟩ (some k),h⟩
 case mrange=>exact h.elim
 case mnext=>exact h.elim
 case mentry=>exact h.elim
 case mupd str x i v =>
  simp only[bN] at h;simp only[evalOp];split at h
  case h_2=>exact h.elim
  rename_i k hx;split at h
  case h_2=>exact h.elim
  rename_i es hk be ba hp;obtain⟨es',bj,h⟩:=h;obtain⟨g,cs,e1,e2⟩:=AQ z hx;obtain⟨g',vs,e3,hE⟩:=DL l.tl hk;rw[e2] at e3;injection e3 with e3
  injection e3 with q1 q2 q3
  subst q1 q3;rw[e1];have bd:Rel F [] (cn τ i) (val L ρ i)/\fZ str (val L ρ i) (val L ρ i)=some true:=by
   rcases LO be with⟨n,rfl,e⟩ | ⟨t,rfl,e⟩
   ·obtain⟨e2,w⟩:=eX z e;simp only[e,val,e2,conc,Rel,fZ,decide_true];exact⟨⟨trivial,w⟩,trivial⟩
   ·obtain⟨e2,w⟩:=jY z e;simp only[e,val,e2,conc,Rel,fZ,decide_true];exact⟨⟨trivial,w⟩,trivial⟩
  have cb:Rel F [] ((cn τ v).cel.ZG) (val L ρ v):=by
   have bu:=dY z ba;have dd:=eS (L':=[]) hp bu;exact Gl (tP z v) hp
  obtain⟨cs',ay,bk⟩:=EP bd.1 cb hE bj;refine⟨k,cs,e2,hE.isMap,bd.2,cs',ay,?_⟩;have h4:=l.turn (o':=.box g 0 cs') (to:=.map es') e2 ⟨rfl,rfl⟩ (fun g' t' cw e=>by injection e with a b c;subst a b;exact⟨_,rfl⟩) (fun _ _=>⟨rfl,bk⟩);exact h4.ZK (c:=.und) (sv:=.v undef) ⟨_,rfl,by simp only[Rel]⟩ h
 case copy e sz a b=>exact h.out _ _ _ _ l
 case copyX=>exact h.elim
 case storeX n a x=>exact DP l h
 all_goals
  simp only[bN,fu,eV,dX] at h;simp only[evalOp];exact Pj (d:=d) (K:=K) l h
end
end Go.Fr.T
