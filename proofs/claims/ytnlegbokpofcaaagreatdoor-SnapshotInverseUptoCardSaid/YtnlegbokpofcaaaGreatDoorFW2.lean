/- Part of the proofs of the statements of this seat. -/
import Derived.Test.YtnlegbokpofcaaaGreatDoorFW1
set_option maxRecDepth 10000
set_option linter.unusedVariables false
set_option linter.unusedSimpArgs false
namespace Go.Fr.T
open Go Go.RowKit Go.Fr
def iB (Li:List Own) (R:List TO->C->Prop):aF->List Own->Value->Prop:=fun F Lo v =>
 ∃Mo c,Mo.length=Lo.length/\dH F (inp Lo) (jG Mo)/\Rel F (inp Lo) c v/\(∀(i:Nat) g t cs,Li[i]?=some (.box g t cs)->∃cs',Lo[i]?=some (.box g t cs'))/\R Mo c
structure CallsT (P:Program) (f:Nat) (args:List C) (Lin:List TO) (R:List TO->C->Prop):Prop where
 out:∀(F:aF) (Li:List Own) (vs:List Value),Li.length=Lin.length->dH F (inp Li) (jG Lin)->aG F (inp Li) args vs->CallsA P f vs.toArray F Li (iB Li R)
structure CallsTX (P:Program) (f:Nat) (args:List C) (Lin:List TO) (R:List TO->C->Prop) (Pp:Value->Prop):Prop where
 out:∀(F:aF) (Li:List Own) (vs:List Value),Li.length=Lin.length->dH F (inp Li) (jG Lin)->aG F (inp Li) args vs->ve P f vs.toArray F Li (iB Li R) Pp
theorem CallsT.toX {P:Program}{f:Nat}{args:List C}{Lin:List TO}{R:List TO->C->Prop}{Pp:Value->Prop}(h:CallsT P f args Lin R):CallsTX P f args Lin R Pp:=⟨fun F Li vs c b a=>(h.out F Li vs c b a).toX⟩
def aW:List TO->List Nat->List Nat->Bool
 | .box _ _::l,k::ks,a::ko=>match Nat.beq k a with | true=>aW l ks ko | false=>false
 | .box _ _::_,_,_=>false
 | .map _::l,k::ks,a::ko=>match Nat.beq k a with | true=>aW l ks ko | false=>false
 | .map _::_,_,_=>false
 | .win _ _ _ _::l,k::ks,a::ko=>match Nat.beq k a with | true=>aW l ks ko | false=>false
 | .win _ _ _ _::_,_,_=>false
 | .row _ _ _::l,_::ks,_::ko=>aW l ks ko
 | .row _ _ _::l,_::ks,[]=>aW l ks []
 | .row _ _ _::_,[],_=>false
 | [],_,_=>true
def mP (L:TL) (ks:List Nat):List Nat->Bool
 | []=>true
 | k::ko=>match gI ks k,L.get k with
  | true,_=>mP L ks ko
  | false,none=>mP L ks ko
  | false,some _=>false
def covers:TL->TL->Bool
 | [],_=>true
 | (k,_)::l,L1=>match L1.get k with | some _=>covers l L1 | none=>false
def nJ:TL->TL->Bool
 | [],_=>true
 | (k,.box _ _)::l,L1=>match L1.get k with | some (.box _ _)=>nJ l L1 | _=>false
 | (k,.map _)::l,L1=>match L1.get k with | some (.map _)=>nJ l L1 | _=>false
 | (k,.win _ _ _ _)::l,L1=>match L1.get k with | some (.win _ _ _ _)=>nJ l L1 | _=>false
 | (_,.row _ _ _)::l,L1=>nJ l L1
def TL.kills (ks:List Nat) (L:TL):TL:=match ks with | []=>L | _=>L.aag (C.kills ks)
def fP (ks:List Nat) (ρ:aY):aY:=match ks with | []=>ρ | _=>fun j=>(ρ j).kills ks
def rowsOf (L:TL):List Nat->List Nat
 | []=>[]
 | k::ks=>match L.get k with
  | some (.row _ _ _)=>k::rowsOf L ks
  | _=>rowsOf L ks
def TD (Li Lo:List Own):Prop:=Lo.length=Li.length/\∀(i:Nat) o,Li[i]?=some o->∃o',Lo[i]?=some o'/\Own.like o o'
structure xh (P:Program) (f:Nat) (args:List C) (Lin:List TO) (R:List TO->C->Prop):Prop where
 out:∀(F:aF) (Li:List Own) (vs:List Value),Li.length=Lin.length->dH F (inp Li) (jG Lin)->aG F (inp Li) args vs->CallsA P f vs.toArray F Li (fun F' Lo v=>iB Li R F' Lo v/\TD Li Lo)
inductive pE (P:Program) (f:Nat) (args:List C) (L:TL) (ρ:aY) (K:TL->aY->C->Prop):Prop
 | mk (out:∃(fz ks ko:List Nat),yw fz L ρ args fun L ρ args =>
  ∃(L1:TL) (Lin:List TO) (R:List TO->C->Prop),(L1=L\/(gives L L1 L1/\covers L L1=true))/\L1.sub ks=some Lin/\bP ks=true/\bP ko=true/\mP L1 ks ko=true/\aW Lin ks ko=true /\
   CallsT P f (args.map fun c=>c.aaj.ren (cn ks 1000)) (Lin.map (TO.aag (C.ren (cn ks 1000)))) R /\
   ∀v Mo,R Mo v->Wf v->(∀o∈Mo,o.Wf)->ko.length=Mo.length /\
    K (((L1.aaf ks).kills (rowsOf L1 ks)).puts ko (Mo.map (TO.aag (C.ren (br ko))))) (fP (rowsOf L1 ks) ρ) (v.ren (br ko)).slt)
 | inpl (ks:List Nat) (Lin:List TO) (R:List TO->C->Prop) (hs:L.sub ks=some Lin) (hn:bP ks=true) (h:xh P f (args.map fun c=>c.aaj.ren (cn ks 1000)) (Lin.map (TO.aag (C.ren (cn ks 1000)))) R)
   (k:∀v Mo,R Mo v->Wf v->(∀o∈Mo,o.Wf)->ks.length=Mo.length/\K ((L.aaf ks).puts ks (Mo.map (TO.aag (C.ren (br ks))))) ρ (v.ren (br ks)).slt)
structure qJ where
 ps:Value->Prop
 hb:List (Nat×Nat):=[]
 st:Option (TL->Value->Prop):=none
def mF (L:TL) (ks:List Nat):List (Nat×Nat)->Bool
 | []=>true
 | (k,n)::l=>match gI ks k,L.get k with
  | false,some (.box _ cs)=>match dM cs n with | true=>mF L ks l | false=>false
  | _,_=>false
structure lV (P:Program) (f:Nat) (args:List C) (Lin:List TO) (R:List TO->C->Prop) (Pp:Value->Prop):Prop where
 out:∀(F:aF) (Li:List Own) (vs:List Value),Li.length=Lin.length->dH F (inp Li) (jG Lin)->aG F (inp Li) args vs->ve P f vs.toArray F Li (fun F' Lo v=>iB Li R F' Lo v/\TD Li Lo) Pp
inductive qf (P:Program) (PS:qJ) (f:Nat) (args:List C) (L:TL) (ρ:aY) (K:TL->aY->C->Prop):Prop
 | mk (out:∃(fz ks ko:List Nat),yw fz L ρ args fun L ρ args =>
  ∃(L1:TL) (Lin:List TO) (R:List TO->C->Prop) (Pp:Value->Prop),(L1=L\/(gives L L1 L1/\covers L L1=true))/\L1.sub ks=some Lin/\bP ks=true/\bP ko=true/\mP L1 ks ko=true/\aW Lin ks ko=true/\mF L1 ks PS.hb=true /\
   CallsTX P f (args.map fun c=>c.aaj.ren (cn ks 1000)) (Lin.map (TO.aag (C.ren (cn ks 1000)))) R Pp/\(∀v,Pp v->PS.ps v) /\
   ∀v Mo,R Mo v->Wf v->(∀o∈Mo,o.Wf)->ko.length=Mo.length /\
    K (((L1.aaf ks).kills (rowsOf L1 ks)).puts ko (Mo.map (TO.aag (C.ren (br ko))))) (fP (rowsOf L1 ks) ρ) (v.ren (br ko)).slt)
 | inpl (ks:List Nat) (Lin:List TO) (R:List TO->C->Prop) (Pp:Value->Prop) (hs:L.sub ks=some Lin) (hn:bP ks=true) (hh:mF L ks PS.hb=true) (h:lV P f (args.map fun c=>c.aaj.ren (cn ks 1000)) (Lin.map (TO.aag (C.ren (cn ks 1000)))) R Pp) (hp:∀v,Pp v->PS.ps v)
   (k:∀v Mo,R Mo v->Wf v->(∀o∈Mo,o.Wf)->ks.length=Mo.length/\K ((L.aaf ks).puts ks (Mo.map (TO.aag (C.ren (br ks))))) ρ (v.ren (br ks)).slt)
structure CallsTS (P:Program) (f:Nat) (args:List C) (Lin:List TO) (R:List TO->C->Prop) (Pp:List TO->Value->Prop):Prop where
 out:∀(F:aF) (Li:List Own) (vs:List Value),Li.length=Lin.length->dH F (inp Li) (jG Lin)->aG F (inp Li) args vs->wV P f vs.toArray F Li (iB Li R) (fun F' Lo v=>∃Mo,Mo.length=Lo.length/\dH F' (inp Lo) (jG Mo)/\Pp Mo v)
structure BR (P:Program) (ps:Value->Prop) (hb:List (Nat×Nat)) (st:TL->Value->Prop) (f:Nat) (args:List C) (L:TL) (ρ:aY) (K:TL->aY->C->Prop):Prop where
 out:∃(ks ko:List Nat) (L1:TL) (Lin:List TO) (R:List TO->C->Prop) (Pp:List TO->Value->Prop),(L1=L\/(gives L L1 L1/\covers L L1=true))/\L1.sub ks=some Lin/\bP ks=true/\bP ko=true/\mP L1 ks ko=true/\aW Lin ks ko=true/\mF L1 ks hb=true /\
   CallsTS P f (args.map fun c=>c.aaj.ren (cn ks 1000)) (Lin.map (TO.aag (C.ren (cn ks 1000)))) R Pp /\
   (∀v Mo,Pp Mo v->(∀o∈Mo,o.Wf)->ks.length=Mo.length->ps v/\st (((L1.aaf ks).kills (rowsOf L1 ks)).puts ks (Mo.map (TO.aag (C.ren (br ks))))) v) /\
   ∀v Mo,R Mo v->Wf v->(∀o∈Mo,o.Wf)->ko.length=Mo.length /\
    K (((L1.aaf ks).kills (rowsOf L1 ks)).puts ko (Mo.map (TO.aag (C.ren (br ko))))) (fP (rowsOf L1 ks) ρ) (v.ren (br ko)).slt
def yx:List C->Option (List Value)
 | []=>some []
 | .int k n::l=>match yx l with | some vs=>some (.int k n::vs) | none=>none
 | .bool b::l=>match yx l with | some vs=>some (.bool b::vs) | none=>none
 | .str s::l=>match yx l with | some vs=>some (.string s::vs) | none=>none
 | _=>none
def Dp:C->Option Value
 | .ifc t (.int k n)=>some (.iface t (.int k n))
 | .ifc t (.bool b)=>some (.iface t (.bool b))
 | .ifc t (.str s)=>some (.iface t (.string s))
 | .ifc t (.agg cs)=>match yx cs with | some vs=>some (.iface t (.agg vs.toArray)) | none=>none
 | _=>none
structure TF (PS:qJ) (L:TL) (c:C):Prop where
 out:∃v,Dp c=some v/\mF L [] PS.hb=true/\PS.ps v
structure VI (ps:Value->Prop) (hb:List (Nat×Nat)) (st:TL->Value->Prop) (L:TL) (c:C):Prop where
 out:∃v,Dp c=some v/\mF L [] hb=true/\ps v/\st L v
inductive BS (P:Program) (f:Nat) (args:List C) (L:TL) (ρ:aY) (K:TL->aY->C->Prop):Prop
 | mk (out:∃(ks ko:List Nat) (Lin:List TO) (R:List TO->C->Prop),L.sub ks=some Lin/\bP ks=true/\bP ko=true/\mP L ks ko=true/\aW Lin ks ko=true /\
   CallsT P f (args.map fun c=>c.aaj.ren (cn ks 1000)) (Lin.map (TO.aag (C.ren (cn ks 1000)))) R /\
   ∀v Mo,R Mo v->Wf v->(∀o∈Mo,o.Wf)->ko.length=Mo.length /\
    K (((L.aaf ks).kills (rowsOf L ks)).puts ko (Mo.map (TO.aag (C.ren (br ko))))) (fP (rowsOf L ks) ρ) (v.ren (br ko)).slt)
 | inpl (ks:List Nat) (Lin:List TO) (R:List TO->C->Prop) (hs:L.sub ks=some Lin) (hn:bP ks=true) (h:xh P f (args.map fun c=>c.aaj.ren (cn ks 1000)) (Lin.map (TO.aag (C.ren (cn ks 1000)))) R)
   (k:∀v Mo,R Mo v->Wf v->(∀o∈Mo,o.Wf)->ks.length=Mo.length/\K ((L.aaf ks).puts ks (Mo.map (TO.aag (C.ren (br ks))))) ρ (v.ren (br ks)).slt)
def yD:List Nat->List Nat->Bool
 | [],_=>true
 | k::ks,a=>match gI a k with | true=>false | false=>yD ks a
structure ou (P:Program) (PS:qJ) (fb:List Nat) (f:Nat) (args:List C) (L:TL) (ρ:aY) (K:TL->aY->C->Prop):Prop where
 out:∃(ks:List Nat) (Lin:List TO) (R:List TO->C->Prop) (Pp:Value->Prop),L.sub ks=some Lin/\bP ks=true/\yD ks fb=true/\aW Lin ks ks=true/\mF L ks PS.hb=true /\
   CallsTX P f (args.map fun c=>c.aaj.ren (cn ks 1000)) (Lin.map (TO.aag (C.ren (cn ks 1000)))) R Pp/\(∀v,Pp v->PS.ps v) /\
   ∀v Mo,R Mo v->Wf v->(∀o∈Mo,o.Wf)->ks.length=Mo.length /\
    K (((L.aaf ks).kills (rowsOf L ks)).puts ks (Mo.map (TO.aag (C.ren (br ks))))) (fP (rowsOf L ks) ρ) (v.ren (br ks)).slt
structure xj (P:Program) (ps:Value->Prop) (hb:List (Nat×Nat)) (st:TL->Value->Prop) (fb:List Nat) (f:Nat) (args:List C) (L:TL) (ρ:aY) (K:TL->aY->C->Prop):Prop where
 out:∃(ks:List Nat) (Lin:List TO) (R:List TO->C->Prop) (Pp:List TO->Value->Prop),L.sub ks=some Lin/\bP ks=true/\yD ks fb=true/\aW Lin ks ks=true/\mF L ks hb=true /\
   CallsTS P f (args.map fun c=>c.aaj.ren (cn ks 1000)) (Lin.map (TO.aag (C.ren (cn ks 1000)))) R Pp /\
   (∀v Mo,Pp Mo v->(∀o∈Mo,o.Wf)->ks.length=Mo.length->ps v/\st (TL.puts [] ks (Mo.map (TO.aag (C.ren (br ks))))) v) /\
   ∀v Mo,R Mo v->Wf v->(∀o∈Mo,o.Wf)->ks.length=Mo.length /\
    K (((L.aaf ks).kills (rowsOf L ks)).puts ks (Mo.map (TO.aag (C.ren (br ks))))) (fP (rowsOf L ks) ρ) (v.ren (br ks)).slt
def nK (P:Program) (f:Nat):Prop:=∃fn,P.funcs[f]?=some fn/\fn.body.isSome=true/\(fn.name == "runtime.NumGoroutine")=false
structure TG (P:Program) (f:Nat) (args:List C) (t sz:Nat) (els:List (List C)) (x:C):Prop where
 out:∀(F:aF) (rv:Value) (xs vs:List Value),dG F (inp [.row rv t sz els.length xs]) (.row t sz els) (.row rv t sz els.length xs)->aG F (inp [.row rv t sz els.length xs]) args vs ->
  CallsA P f vs.toArray F [.row rv t sz els.length xs] (fun F' Lo v=>Lo=[.row rv t sz els.length xs]/\Rel F' (inp []) x v)
inductive tL (P:Program) (f:Nat) (args:List C) (L:TL) (ρ:aY) (d:Option Nat) (K:TL->aY->C->Prop):Prop
 | frz (R:List TO->C->Prop) (h:CallsT P f (args.map fun c=>c.aaj.ren (cn [] 1000)) [] R) (k:∀v Mo,R Mo v->Wf v->Mo=[]/\K L ρ v.slt)
 | own (R:List TO->C->Prop) (k:Nat) (h:CallsT P f (args.map fun c=>c.aaj.ren (cn [] 1000)) [] R) (hd:d=some k) (hk:L.get k=none)
   (kk:∀v Mo,R Mo v->Wf v->(∀o∈Mo,o.Wf)->∃o,Mo=[o]/\K (L.set k (o.aag (C.ren (br [k])))) ρ (v.ren (br [k])).slt)
 | row (R:List TO->C->Prop) (kr t sz:Nat) (els:List (List C)) (he:nK P f) (hk:L.get kr=some (.row t sz els)) (h:CallsT P f (args.map fun c=>(c.frz kr els).aaj.ren (cn [] 1000)) [] R)
   (kk:∀v Mo,R Mo v->Wf v->Mo=[]/\K ((L.aag (C.kill kr)).set kr (.row t sz [])) (fun j=>(ρ j).kill kr) v.slt)
 | lent (kr t sz:Nat) (els:List (List C)) (x:C) (hk:L.get kr=some (.row t sz els)) (h:TG P f (args.map fun c=>c.aaj.ren (cn [kr] 1000)) t sz els x) (k:Wf x->K L ρ x.slt)
def Rz:Value->C
 | .int k n=>.int k n
 | .bool b=>.bool b
 | .string s=>.str s
 | _=>.any
def isNil:X->Bool
 | .c (.slice none 0 0)=>true
 | _=>false
def EW:X->Bool
 | .c (.pointer none)=>true
 | _=>false
def EX:X->Bool
 | .c .nilFunc=>true
 | _=>false
def vC:List Bool->List C->List C->Bool->Option Bool
 | [],[],[],c=>some c
 | true::ks,.int k a::l,.int e b::d,c=>match qM k e with | true=>vC ks l d (c&&decide (a=b)) | false=>none
 | false::ks,.bool a::l,.bool b::d,c=>vC ks l d (c&&decide (a=b))
 | _,_,_,_=>none
structure HS (P:Program) (t:TypeId) (nm:String) (K:Nat->Prop):Prop where
 out:∃f,oV P t nm=some f/\K f
def P8 (P:Program) (t:TypeId):Bool:=match P.underlying t with | some (.interface _)=>true | _=>false
def BU (ρ:aY):List (Nat×Nat×X)->List C->(List C->Prop)->Prop
 | [],zs,K=>K zs
 | (off,n,x)::ps,zs,K=>match(cB ρ x).okc,dM (ct (cB ρ x)) n with
  | true,true=>fl (ct (cB ρ x)) fun vs=>fl (fN zs off vs) fun zs=>BU ρ ps zs K
  | _,_=>False
theorem vD {ρ:aY}:∀{ps:List (Nat×Nat×X)}{zs:List C}{K:List C->Prop},BU ρ ps zs K->∃cs,vB ρ zs ps=some cs/\K cs
 | [],zs,K,h=>⟨zs,rfl,h⟩
 | (off,n,x)::ps,zs,K,h=>by
  simp only[BU] at h;simp only[vB];split at h
  ·rename_i b a;rw[fk,fk] at h
   first
   | exact vD h
   | (rw[b,a];exact vD h)
  ·exact h.elim
structure RA (k:Nat) (K:Nat->Prop):Prop where
 out:∃n,I8 k=some n/\n<=9223372036854775807/\K n
def Mx (t:Nat):Bool:=match Nat.beq t 0 with | true=>false | false=>Nat.ble t 1048575
structure RD (pre:List C) (off:Nat) (cs:List C) (n:Nat) (K:List C->Prop):Prop where
 out:(∃o,off=pre.length+o/\match dM ((cs.drop o).take n) n with | true=>K ((cs.drop o).take n) | false=>False)\/∃vs,(pre.drop off).take n=vs/\dM vs n=true/\K vs
structure VJ (pre:List C) (off:Nat) (cs:List C) (n:Nat) (vs:List C) (K:Nat->Prop) (K':List C->Prop):Prop where
 out:(∃o,off=pre.length+o/\match dM ((cs.drop o).take n) n with | true=>K o | false=>False)\/∃pre',off+n<=pre.length/\eH vs=true/\fN pre off vs=pre'/\K' pre'
structure VK (offs:List Nat) (j:Nat) (K:Nat->Prop):Prop where
 out:∃o,offs[j]?=some o/\K o
def wm (k:Nat) (ρ:aY):List X->Option (List Nat)
 | []=>some []
 | x::xs=>match(cB ρ x).cel,wm k ρ xs with
  | .own j off,some l=>match Nat.beq j k with | true=>some (off::l) | false=>none
  | _,_=>none
def outT (o:eY) (L:TL) (ρ:aY) (V:C->Prop):Prop :=
 match o with
 | .mov x=>V (cB ρ x)
 | .pick c a b=>match cB ρ c with
  | .bool t=>xS t (V (cB ρ a)) (V (cB ρ b))
  | _=>False
 | .build zs ps=>fl (zs.map sS) fun zs=>BU ρ ps zs fun cs=>V (.agg cs)
 | .load agg n x=>match cB ρ x with
  | .own k off=>match L.get k with
   | some (.box _ cs)=>match dM ((cs.drop off).take n) n with
    | true=>V (BP agg ((cs.drop off).take n))
    | false=>False
   | some (.win _ pre cs _)=>RD pre off cs n fun vs=>V (BP agg vs)
   | _=>False
  | .pt es off=>match dM ((es.drop off).take n) n with
   | true=>V (BP agg ((es.drop off).take n))
   | false=>False
  | .ownv k off=>match L.get k with
   | some (.box _ cs)=>match dM ((cs.drop off).take n) n with
    | true=>V (BP agg ((cs.drop off).take n))
    | false=>False
   | some (.win _ pre cs _)=>RD pre off cs n fun vs=>V (BP agg vs)
   | _=>False
  | .elr k j off=>match L.get k with
   | some (.row _ _ els)=>Nh els j off n fun cs=>V (BP agg cs)
   | _=>False
  | .slp k d j=>match agg,Nat.beq n 1 with
   | false,true=>VK d j fun o=>V (.ownv k o)
   | _,_=>False
  | _=>False
 | .loadR agg n x=>match cB ρ x with
  | .own k off=>match L.get k with
   | some (.box _ cs)=>match dM ((cs.drop off).take n) n with
    | true=>V (BP agg ((cs.drop off).take n))
    | false=>False
   | _=>False
  | .pt es off=>match dM ((es.drop off).take n) n with
   | true=>V (BP agg ((es.drop off).take n))
   | false=>False
  | .ownv k off=>match L.get k with
   | some (.box _ cs)=>match dM ((cs.drop off).take n) n with
    | true=>V (BP agg ((cs.drop off).take n))
    | false=>False
   | _=>False
  | .elr k j off=>match L.get k with
   | some (.row _ _ els)=>Nh els j off n fun cs=>V (BP agg cs)
   | _=>False
  | _=>False
 | .loadD agg n x=>match cB ρ x with
  | .own k off=>match L.get k with
   | some (.box _ cs)=>match dM ((cs.drop off).take n) n with
    | true=>V (BP agg ((cs.drop off).take n))
    | false=>False
   | some (.win _ pre cs _)=>RD pre off cs n fun vs=>V (BP agg vs)
   | _=>False
  | .pt es off=>match dM ((es.drop off).take n) n with
   | true=>V (BP agg ((es.drop off).take n))
   | false=>False
  | _=>False
 | .gload g=>match wT g with
  | some k=>V (.opq k)
  | none=>False
 | .loadF agg n x=>match cB ρ x with
  | .pt es off=>match dM ((es.drop off).take n) n with
   | true=>V (BP agg ((es.drop off).take n))
   | false=>False
  | _=>False
 | .loadK key agg n x=>match cB ρ x with
  | .own k off=>match Nat.beq k key with
   | true=>match L.get k with
    | some (.box _ cs)=>match dM ((cs.drop off).take n) n with
     | true=>V (BP agg ((cs.drop off).take n))
     | false=>False
    | _=>False
   | false=>False
  | _=>False
 | .b2sD x=>match(cB ρ x).can with
  | .sl els=>nG els fun bs=>V (.str ⟨bs.toArray⟩)
  | _=>False
 | .b2sR x=>match cB ρ x with
  | .rw k=>match L.get k with
   | some (.row _ sz els)=>match Nat.beq sz 1 with
    | true=>nG els fun bs=>V (.str ⟨bs.toArray⟩)
    | false=>False
   | _=>False
  | _=>False
 | .nilck x=>match cB ρ x with
  | .own k off=>V (.own k off)
  | .pt es off=>V (.pt es off)
  | .ownv k off=>V (.ownv k off)
  | .fn f fi ca=>V (.fn f fi ca)
  | .mval nm c=>match c with
   | .ifc t c=>PW Hq t nm=true/\V (.mval nm (.ifc t c))
   | _=>False
  | .ifo (some nm) t k off=>PW Hq t nm=true/\V (.ifo (some nm) t k off)
  | _=>False
 | .mkmv nm x=>match cB ρ x with
  | .ifc t c=>V (.mval nm (.ifc t c))
  | .ifo none t k off=>V (.ifo (some nm) t k off)
  | _=>False
 | .bin op x y=>match cB ρ x,cB ρ y with
  | .int k a,.int q b=>match Jd op with
   | true=>shI op k a b fun v=>V (Rz v)
   | false=>match qM k q with
    | true=>binI op k a b fun v=>V (Rz v)
    | false=>False
  | .str a,.str b=>binS op a b fun v=>V (Rz v)
  | _,_=>False
 | .eqB neg x y=>match cB ρ x,cB ρ y with
  | .bool a,.bool b=>V (.bool (lS neg (decide (a=b))))
  | _,_=>False
 | .eqP neg x y=>match EW y,cB ρ x with
  | true,.own _ _=>V (.bool (lS neg false))
  | true,.ownv _ _=>V (.bool (lS neg false))
  | true,.pt _ _=>V (.bool (lS neg false))
  | true,.nilp=>V (.bool (lS neg true))
  | _,_=>False
 | .eqS neg x y=>match isNil y,cB ρ x with
  | true,.sl els=>∀b,(els≠[]->b=false)->V (.bool (lS neg b))
  | true,.slx _=>V (.bool (lS neg false))
  | true,.nils=>V (.bool (lS neg true))
  | _,_=>False
 | .eqF neg x y=>match EX y,cB ρ x with
  | true,.nilf=>V (.bool (lS neg true))
  | true,.fn _ _ _=>V (.bool (lS neg false))
  | _,_=>False
 | .eqN neg x=>match cB ρ x with
  | .ifc _ _=>V (.bool (lS neg false))
  | .ifo none _ _ _=>V (.bool (lS neg false))
  | .opq k=>match EK k with
   | some b=>V (.bool (lS neg b))
   | none=>False
  | _=>False
 | .tas t z x=>match cB ρ x with
  | .ifc e c=>match Nat.beq e t with
   | true=>fc c fun c=>V (.tup [c,.bool true])
   | false=>fc (cv z).cel fun c=>V (.tup [c,.bool false])
  | .ifo none e k off=>match Nat.beq e t with
   | true=>V (.tup [.own k off,.bool true])
   | false=>fc (cv z).cel fun c=>V (.tup [c,.bool false])
  | _=>False
 | .eqA neg ks x y=>match cB ρ x,cB ρ y with
  | .agg cs,.agg ds=>match vC ks cs ds true with
   | some b=>V (.bool (lS neg b))
   | none=>False
  | _,_=>False
 | .mkif t x=>match cB ρ x with
  | .int k n=>V (.ifc t (.int k n))
  | .bool b=>V (.ifc t (.bool b))
  | .str s=>V (.ifc t (.str s))
  | .pt es off=>V (.ifc t (.pt es off))
  | .own k off=>V (.ifo none t k off)
  | .ownv k off=>V (.ifo none t k off)
  | .agg cs=>match eH cs with
   | true=>fl cs fun cs=>V (.ifc t (.agg cs))
   | false=>False
  | _=>False
 | .un op x=>match op,cB ρ x with
  | .not,.bool b=>V (.bool (!b))
  | .neg,.int k n=>Fit k (0-n) fun m=>V (.int k m)
  | .xor,.int k n=>V (.int k (k.wrap (BitVec.ofInt k.bits (if k.signed then -1 else k.max) ^^^ BitVec.ofInt k.bits n).toNat))
  | _,_=>False
 | .conv k x=>match cB ρ x with
  | .int _ n=>Fit k n fun m=>V (.int k m)
  | _=>False
 | .b2s x=>match(cB ρ x).can with
  | .sl els=>nG els fun bs=>V (.str ⟨bs.toArray⟩)
  | _=>False
 | .mkfn f fi ca=>V (.fn f (eP ρ fi) (eP ρ ca))
 | .slc sz x lo hi=>match(cB ρ x).can with
  | .sl els=>match HO ρ 0 lo,HO ρ els.length hi with
   | some l,some h=>Dl l h els sz fun l h=>V (.sl ((els.drop l).take (h-l)))
   | _,_=>False
  | _=>False
 | .slcS x lo hi=>match cB ρ x with
  | .str s=>match HO ρ 0 lo,HO ρ s.size hi with
   | some l,some h=>oh l h s.size fun l h=>V (.str (s.extract l h))
   | _,_=>False
  | _=>False
 | .fieldA off x=>match cB ρ x with
  | .own k o=>V (.own k (o+off))
  | .pt es o=>V (.pt es (o+off))
  | .elr k j o=>V (.elr k j (o+off))
  | .ownv k o=>V (.ownv k (o+off))
  | _=>False
 | .fieldV agg off n x=>match cB ρ x with
  | .agg cs=>match dM ((cs.drop off).take n) n with
   | true=>V (BP agg ((cs.drop off).take n))
   | false=>False
  | _=>False
 | .idxA sz x i=>match(cB ρ x).can,cB ρ i with
  | .sl els,.int _ i=>BQ els i sz fun es=>V (.pt es 0)
  | .rw k,.int _ i=>match L.get k with
   | some (.row _ p els)=>match Nat.beq sz p with
    | true=>QY i els.length (V (.elr k i.toNat 0))
    | false=>False
   | _=>False
  | .slo k d,.int _ i=>match Nat.beq sz 1 with
   | true=>QY i d.length (V (.slp k d i.toNat))
   | false=>False
  | _,_=>False
 | .idxS x i=>match cB ρ x,cB ρ i with
  | .str s,.int _ i=>QY i s.size (V (.int .u8 ((s.data.toList.getD i.toNat 0).toNat)))
  | _,_=>False
 | .extr x i=>match cB ρ x with
  | .tup vs=>match vs[i]? with
   | some v=>V v.slt
   | none=>False
  | _=>False
 | .len x=>match(cB ρ x).can with
  | .sl els=>V (.int .i64 els.length)
  | .rw k=>match L.get k with
   | some (.row _ _ els)=>V (.int .i64 els.length)
   | _=>False
  | .opq k=>RA k fun n=>V (.int .i64 n)
  | .slo k d=>V (.int .i64 d.length)
  | _=>False
 | .lenS x=>match cB ρ x with
  | .str s=>V (.int .i64 s.size)
  | _=>False
 | .mlook str ok z x i=>match cB ρ x with
  | .mpr k=>match L.get k with
   | some (.map es)=>Ry str es (cB ρ i) (fun v=>match ok with | true=>V (.tup [v,.bool true]) | false=>V v.slt) (match ok with | true=>V (.tup [cv z,.bool false]) | false=>V (cv z))
   | _=>False
  | _=>False
 | .mlen x=>match cB ρ x with
  | .mpr k=>match L.get k with
   | some (.map es)=>es.length<=maxLen/\V (.int .i64 es.length)
   | _=>False
  | _=>False
 | .mm mx args=>match args.map (cB ρ) with
  | .int k a::l=>match Vs mx a l with
   | some m=>(Lit.int k m).wf=true/\V (.int k m)
   | none=>False
  | _=>False
 | _=>False
abbrev TK:=TL->aY->Prop
def storeT (b:Bool) (n:Nat) (a x:X) (d:Option Nat) (L:TL) (ρ:aY) (K:TK):Prop :=
 match(cB ρ x).okc,dM (ct (cB ρ x)) n,dZ (ct (cB ρ x)),cB ρ a with
 | true,true,true,.own k off=>match L.get k with
  | some (.box t cs)=>match dM ((cs.drop off).take n) n with
   | true=>fl (fN cs off (ct (cB ρ x))) fun cs=>K (L.set k (.box t cs)) (bL d .und ρ)
   | false=>False
  | some (.win t pre cs post)=>match b with
   | false=>VJ pre off cs n (ct (cB ρ x)) (fun o=>fl (fN cs o (ct (cB ρ x))) fun cs=>K (L.set k (.win t pre cs post)) (bL d .und ρ)) fun pre'=>K (L.set k (.win t pre' cs post)) (bL d .und ρ)
   | true=>False
  | _=>False
 | true,true,true,.elr k j off=>match b,L.get k,eH (ct (cB ρ x)) with
  | false,some (.row t sz els),true=>Nat.ble (off+n) sz=true/\Nh els j off n fun _=>∀es,els[j]?=some es->K (L.set k (.row t sz (els.set j (fN es off ((ct (cB ρ x)).map C.can))))) (bL d .und ρ)
  | _,_,_=>False
 | _,_,_,_=>False
structure Nj (es:List C) (off:Nat) (b:Bool) (K:Prop):Prop where
 same:es[off]?=some (.bool b)
 out:K
def EY (n:Nat) (a x:X) (d:Option Nat) (L:TL) (ρ:aY) (K:TK):Prop :=
 match cB ρ a,cB ρ x with
 | .pt es off,.bool b=>match Nat.beq n 1 with
  | true=>Nj es off b (K L (bL d .und ρ))
  | false=>False
 | _,_=>storeT false n a x d L ρ K
def Nk (e sz bytes:Nat) (s x:C) (d:Option Nat) (L:TL) (ρ:aY) (K:TK):Prop :=
 match s,x.can,d with
 | .rw k,.sl news,_=>match L.get k with
  | some (.row c b els)=>match Nat.beq e c,Nat.beq sz b with
   | true,true=>tK els news sz bytes (fT ((L.aag (C.kill k)).set k (.row e sz (els++news))) fun L=>K L (bL d (.rw k) fun j=>(ρ j).kill k))
   | _,_=>False
  | _=>False
 | .nils,.sl news,some k=>match L.get k with
  | none=>tK [] news sz bytes (fT (L.set k (.row e sz news)) fun L=>K L (bL d (.rw k) ρ))
  | some _=>False
 | .slx els,.sl news,some k=>match L.get k with
  | none=>0<news.length/\(∀es∈els,es.length=sz)/\tK els news sz bytes (fT (L.set k (.row e sz (els++news))) fun L=>K L (bL d (.rw k) ρ))
  | some _=>False
 | .rw k,.rw h,_=>match L.get k,L.get h with
  | some (.row c b els),some (.row f a news)=>match Nat.beq e c,Nat.beq sz b,Nat.beq sz a with
   | true,true,true=>tK els news sz bytes (fT ((L.aag (C.kill k)).set k (.row e sz (els++news))) fun L=>K L (bL d (.rw k) fun j=>(ρ j).kill k))
   | _,_,_=>False
  | _,_=>False
 | .nils,.rw h,some k=>match L.get k,L.get h with
  | none,some (.row f a news)=>match Nat.beq sz a with
   | true=>tK [] news sz bytes (K (L.set k (.row e sz news)) (bL d (.rw k) ρ))
   | false=>False
  | _,_=>False
 | _,_,_=>False
structure TH (P:Program) (o:eY) (d:Option Nat) (M:TL) (τ:aY) (K:TL->aY->Prop):Prop where
 out:∀(G:Nat->Option (Nat×TypeId)) (F:aF) (L:Loc) (ρ:Env),TS G F L ρ M τ->evalOp P o d F L ρ fun F L ρ=>∃M τ,TS G F L ρ M τ/\K M τ
def bS (P:Program) (o:eY) (d:Option Nat) (L:TL) (ρ:aY) (K:TK):Prop :=
 match o with
 | .box t x=>match d with
  | some k=>match L.get k,(cB ρ x).okc,Mx t with
   | none,true,true=>fl (ct (cB ρ x)) fun cs=>K (L.set k (.box t cs)) (bL d (.own k 0) ρ)
   | _,_,_=>False
  | none=>False
 | .boxD t x=>match d with
  | some k=>match L.get k,(cB ρ x).okc,Mx t with
   | none,true,true=>fl (ct (cB ρ x)) fun cs=>K (L.set k (.box t cs)) (bL d (.own k 0) ρ)
   | _,_,_=>False
  | none=>False
 | .boxF t x=>match(cB ρ x).okc,dZ (ct (cB ρ x)),eH (ct (cB ρ x)) with
  | true,true,true=>fl ((ct (cB ρ x)).map C.can) fun cs=>K L (bL d (.pt cs 0) ρ)
  | _,_,_=>False
 | .alloc t zs=>match d with
  | some k=>match L.get k,Mx t with
   | none,true=>fl (zs.map sS) fun cs=>K (L.set k (.box t cs)) (bL d (.own k 0) ρ)
   | _,_=>False
  | none=>False
 | .allocD t zs=>match d with
  | some k=>match L.get k,Mx t with
   | none,true=>fl (zs.map sS) fun cs=>K (L.set k (.box t cs)) (bL d (.own k 0) ρ)
   | _,_=>False
  | none=>False
 | .mkF e n sz xs=>match rj ρ sz xs,Nat.beq xs.length n,Nat.ble n 9223372036854775807 with
  | true,true,true=>K L (bL d (.slx (vA ρ xs)) ρ)
  | false,true,true=>match Nat.beq sz 1,xs with
   | true,x::_=>match(cB ρ x).cel with
    | .own k _=>match wm k ρ xs with
     | some q=>K L (bL d (.slo k q) ρ)
     | none=>False
    | _=>False
   | _,_=>False
  | _,_,_=>False
 | .mkFD e n sz xs=>match rj ρ sz xs,Nat.beq xs.length n,Nat.ble n 9223372036854775807 with
  | true,true,true=>K L (bL d (.slx (vA ρ xs)) ρ)
  | false,true,true=>match Nat.beq sz 1,xs with
   | true,x::_=>match(cB ρ x).cel with
    | .own k _=>match wm k ρ xs with
     | some q=>K L (bL d (.slo k q) ρ)
     | none=>False
    | _=>False
   | _,_=>False
  | _,_,_=>False
 | .mkR e n sz xs=>match rj ρ sz xs,Nat.beq xs.length n,Nat.ble n 9223372036854775807,d with
  | true,true,true,some k=>match L.get k with
   | none=>K (L.set k (.row e sz (vA ρ xs))) (bL d (.rw k) ρ)
   | some _=>False
  | _,_,_,_=>False
 | .s2b _ x=>match cB ρ x with
  | .str s=>K L (bL d (.sl (ak s.data.toList)) ρ)
  | _=>False
 | .makeS e sz bytes zs l c=>match cB ρ l,cB ρ c,d with
  | .int _ n,.int _ m,some k=>match L.get k,dM (zs.map sS) sz,dZ (zs.map sS) with
   | none,true,true=>vg n m bytes fun n=>K (L.set k (.row e sz (List.replicate n ((zs.map sS).map C.can)))) (bL d (.rw k) ρ)
   | _,_,_=>False
  | _,_,_=>False
 | .makeSD e sz n zs=>match d with
  | some k=>match L.get k,dM (zs.map sS) sz,(Nat.beq n 0||dZ (zs.map sS)),Nat.ble n 9223372036854775807 with
   | none,true,true,true=>K (L.set k (.row e sz (List.replicate n ((zs.map sS).map C.can)))) (bL d (.rw k) ρ)
   | _,_,_,_=>False
  | none=>False
 | .makeSV e sz bytes zs x=>match cB ρ x,d with
  | .int _ n,some k=>match L.get k,dM (zs.map sS) sz,dZ (zs.map sS) with
   | none,true,true=>vg n n bytes fun n=>K (L.set k (.row e sz (List.replicate n ((zs.map sS).map C.can)))) (bL d (.rw k) ρ)
   | _,_,_=>False
  | _,_=>False
 | .storeK key n a x=>match cB ρ a with
  | .own k _=>match Nat.beq k key with
   | true=>storeT true n a x d L ρ K
   | false=>False
  | _=>False
 | .copy e sz a b=>TH P (.copy e sz a b) d L ρ K
 | .copyX _ _ _ _=>False
 | .storeX n a x=>storeT false n a x d L ρ K
 | .store n a x=>EY n a x d L ρ K
 | .storeD n a x=>storeT true n a x d L ρ K
 | .call f args=>fl (eP ρ args) fun args=>pE P f args L ρ fun L' ρ' v=>fT L' fun L'=>wJ v fun v=>K L' (bL d v ρ')
 | .callV f args=>match cB ρ f with
  | .fn f fi ca=>fl (fi++eP ρ args++ca) fun args=>pE P f args L ρ fun L' ρ' v=>fT L' fun L'=>wJ v fun v=>K L' (bL d v ρ')
  | .mval nm c=>match c with
   | .ifc t c=>HS P t nm fun f=>fl (eP ρ args) fun args=>pE P f (c::args) L ρ fun L' ρ' v=>fT L' fun L'=>wJ v fun v=>K L' (bL d v ρ')
   | _=>False
  | .ifo (some nm) t k off=>HS P t nm fun f=>fl (eP ρ args) fun args=>pE P f (.own k off::args) L ρ fun L' ρ' v=>fT L' fun L'=>wJ v fun v=>K L' (bL d v ρ')
  | .mof t nm=>match P8 P t,eP ρ args with
   | true,.ifc y c::h=>HS P y nm fun f=>fl h fun h=>pE P f (c::h) L ρ fun L' ρ' v=>fT L' fun L'=>wJ v fun v=>K L' (bL d v ρ')
   | _,_=>False
  | _=>False
 | .callD f args=>fl (eP ρ args) fun args=>tL P f args L ρ d fun L' ρ' v=>fT L' fun L'=>wJ v fun v=>K L' (bL d v ρ')
 | .callVD f args=>match cB ρ f with
  | .fn f fi ca=>fl (fi++eP ρ args++ca) fun args=>tL P f args L ρ d fun L' ρ' v=>fT L' fun L'=>wJ v fun v=>K L' (bL d v ρ')
  | .mval nm c=>match c with
   | .ifc t c=>HS P t nm fun f=>fl (eP ρ args) fun args=>tL P f (c::args) L ρ d fun L' ρ' v=>fT L' fun L'=>wJ v fun v=>K L' (bL d v ρ')
   | _=>False
  | _=>False
 | .callO f args=>fl (eP ρ args) fun args=>BS P f args L ρ fun L' ρ' v=>fT L' fun L'=>wJ v fun v=>K L' (bL d v ρ')
 | .callVO f args=>match cB ρ f with
  | .fn f fi ca=>fl (fi++eP ρ args++ca) fun args=>BS P f args L ρ fun L' ρ' v=>fT L' fun L'=>wJ v fun v=>K L' (bL d v ρ')
  | _=>False
 | .mkmap=>match d with
  | some k=>match L.get k with
   | none=>K (L.set k (.map [])) (bL d (.mpr k) ρ)
   | some _=>False
  | none=>False
 | .mupd str x i v=>match cB ρ x with
  | .mpr k=>match L.get k,JQ str (cB ρ i),(cB ρ v).okc,eH (ct (cB ρ v)) with
   | some (.map es),true,true,true=>TB str es (cB ρ i) ((cB ρ v).cel.aaj) fun es=>K (L.set k (.map es)) (bL d .und ρ)
   | _,_,_,_=>False
  | _=>False
 | .look x i=>match cB ρ x,cB ρ i with
  | .opq k,.int .i64 n=>match wU k n with
   | some (r,b)=>K L (bL d (.tup [.int .i64 r,.bool b]) ρ)
   | none=>False
  | _,_=>False
 | .app e sz bytes _ s x=>Nk e sz bytes (cB ρ s) (cB ρ x) d L ρ K
 | .appX e sz bytes _ s x=>Nk e sz bytes (cB ρ s) (cB ρ x) d L ρ K
 | .appD e sz bytes _ s x=>match cB ρ s,(cB ρ x).can,d with
  | .rw k,.sl news,_=>match L.get k with
   | some (.row u p els)=>match Nat.beq e u,Nat.beq sz p with
    | true,true=>tK els news sz bytes (fT ((L.aag (C.kill k)).set k (.row e sz (els++news))) fun L=>K L (bL d (.rw k) fun j=>(ρ j).kill k))
    | _,_=>False
   | _=>False
  | .nils,.sl news,some k=>match L.get k with
   | none=>tK [] news sz bytes (fT (L.set k (.row e sz news)) fun L=>K L (bL d (.rw k) ρ))
   | some _=>False
  | .slx els,.sl news,some k=>match L.get k with
   | none=>0<news.length/\(∀es∈els,es.length=sz)/\tK els news sz bytes (fT (L.set k (.row e sz (els++news))) fun L=>K L (bL d (.rw k) ρ))
   | some _=>False
  | _,_,_=>False
 | .appS e s x=>match cB ρ s,cB ρ x,d with
  | .rw k,.str t,_=>match L.get k with
   | some (.row u p els)=>match Nat.beq e u,Nat.beq 1 p with
    | true,true=>tK els (ak t.data.toList) 1 1 (fT ((L.aag (C.kill k)).set k (.row e 1 (els++ak t.data.toList))) fun L=>K L (bL d (.rw k) fun j=>(ρ j).kill k))
    | _,_=>False
   | _=>False
  | .nils,.str t,some k=>match L.get k with
   | none=>tK [] (ak t.data.toList) 1 1 (K (L.set k (.row e 1 (ak t.data.toList))) (bL d (.rw k) ρ))
   | some _=>False
  | _,_,_=>False
 | .appZ e bytes w s x=>match cB ρ s,cB ρ x,d with
  | .rw k,.int _ i,_=>match L.get k with
   | some (.row u p els)=>match Nat.beq e u,Nat.beq 1 p with
    | true,true=>JS i fun m=>tK els (List.replicate m [.int w 0]) 1 bytes (fT ((L.aag (C.kill k)).set k (.row e 1 (els++List.replicate m [.int w 0]))) fun L=>K L (bL d (.rw k) fun j=>(ρ j).kill k))
    | _,_=>False
   | _=>False
  | .nils,.int _ i,some k=>match L.get k with
   | none=>JS i fun m=>tK [] (List.replicate m [.int w 0]) 1 bytes (K (L.set k (.row e 1 (List.replicate m [.int w 0]))) (bL d (.rw k) ρ))
   | some _=>False
  | _,_,_=>False
 | o=>outT o L ρ fun v=>wJ v fun v=>K L (bL d v ρ)
def vE (P:Program) (PS:qJ) (o:eY) (d:Option Nat) (L:TL) (ρ:aY) (K:TK):Prop :=
 match o with
 | .call f args=>fl (eP ρ args) fun args=>match PS.st with
  | none=>qf P PS f args L ρ fun L' ρ' v=>fT L' fun L'=>wJ v fun v=>K L' (bL d v ρ')
  | some s=>BR P PS.ps PS.hb s f args L ρ fun L' ρ' v=>fT L' fun L'=>wJ v fun v=>K L' (bL d v ρ')
 | .callV f args=>match cB ρ f with
  | .fn f fi ca=>fl (fi++eP ρ args++ca) fun args=>match PS.st with
   | none=>qf P PS f args L ρ fun L' ρ' v=>fT L' fun L'=>wJ v fun v=>K L' (bL d v ρ')
   | some s=>BR P PS.ps PS.hb s f args L ρ fun L' ρ' v=>fT L' fun L'=>wJ v fun v=>K L' (bL d v ρ')
  | .ifo (some nm) t k off=>HS P t nm fun f=>fl (eP ρ args) fun args=>match PS.st with
   | none=>qf P PS f (.own k off::args) L ρ fun L' ρ' v=>fT L' fun L'=>wJ v fun v=>K L' (bL d v ρ')
   | some s=>BR P PS.ps PS.hb s f (.own k off::args) L ρ fun L' ρ' v=>fT L' fun L'=>wJ v fun v=>K L' (bL d v ρ')
  | _=>False
 | .pan x=>match PS.st with
  | none=>TF PS L (cB ρ x)
  | some s=>VI PS.ps PS.hb s L (cB ρ x)
 | _=>False
def EZ (P:Program) (PS:qJ) (a:List Nat) (o:eY) (d:Option Nat) (L:TL) (ρ:aY) (K:TK):Prop :=
 match o with
 | .call f args=>fl (eP ρ args) fun args=>match PS.st with
  | some s=>xj P PS.ps PS.hb s a f args L ρ fun L' ρ' v=>fT L' fun L'=>wJ v fun v=>K L' (bL d v ρ')
  | none=>ou P PS a f args L ρ fun L' ρ' v=>fT L' fun L'=>wJ v fun v=>K L' (bL d v ρ')
 | .callV f args=>match cB ρ f with
  | .fn f fi ca=>fl (fi++eP ρ args++ca) fun args=>match PS.st with
   | some s=>xj P PS.ps PS.hb s a f args L ρ fun L' ρ' v=>fT L' fun L'=>wJ v fun v=>K L' (bL d v ρ')
   | none=>ou P PS a f args L ρ fun L' ρ' v=>fT L' fun L'=>wJ v fun v=>K L' (bL d v ρ')
  | .ifo (some nm) t k off=>HS P t nm fun f=>fl (eP ρ args) fun args=>match PS.st with
   | some s=>xj P PS.ps PS.hb s a f (.own k off::args) L ρ fun L' ρ' v=>fT L' fun L'=>wJ v fun v=>K L' (bL d v ρ')
   | none=>ou P PS a f (.own k off::args) L ρ fun L' ρ' v=>fT L' fun L'=>wJ v fun v=>K L' (bL d v ρ')
  | _=>False
 | _=>False
def AO:List aB->TL->Bool
 | [],_=>true
 | s::l,L=>match uy s with
  | none=>AO l L
  | some k=>match L.get k with | none=>AO l L | some _=>false
def sV (d:Option Nat) (ρ:aY):aY :=
 match d with
 | some k=>fun j=>match Nat.beq j k with | true=>(ρ k).aaC | false=>ρ j
 | none=>ρ
def JX (a:Bool) (d:Option Nat) (ρ:aY):aY:=match a with | true=>ρ | false=>sV d ρ
def stepT (P:Program) (PS:qJ) (e:Bool) (s:aB) (c:TL->aY->TK->Prop) (L:TL) (ρ:aY) (K:TK):Prop :=
 match s with
 | .op d o none=>bS P o d L ρ fun L' ρ'=>c L' (JX e d ρ') K
 | .op d o (some (s,a))=>match ρ s with
  | .bool b=>xS b
    (match a with
     | true=>bS P o d L (bL (some s) (.bool true) ρ) fun L' ρ'=>c L' (JX e d ρ') K
     | false=>c L (bL d .und (bL (some s) (.bool true) ρ)) K)
    (match a with
     | false=>bS P o d L (bL (some s) (.bool false) ρ) fun L' ρ'=>c L' (JX e d ρ') K
     | true=>c L (bL d .und (bL (some s) (.bool false) ρ)) K)
  | .und=>c L (bL d .und ρ) K
  | _=>False
 | .frz k=>match e,L.get k with
  | false,some (.row _ _ els)=>fT ((L.del k).aag (C.frz k els)) fun L=>c L (fun j=>(ρ j).frz k els) K
  | false,some (.box _ cs)=>match dZ cs,eH cs,Nat.blt k 1000,gI (PS.hb.map (·.1)) k with
   | true,true,true,false=>fT ((L.del k).aag (C.frb k cs)) fun L=>c L (fun j=>(ρ j).frb k cs) K
   | _,_,_,_=>False
  | _,_=>False
 | .pc d o none=>match e with
  | true=>False
  | false=>vE P PS o d L ρ fun L' ρ'=>c L' (sV d ρ') K
 | .pc d o (some (s,a))=>match e,ρ s with
  | false,.bool b=>xS b
    (match a with
     | true=>vE P PS o d L (bL (some s) (.bool true) ρ) fun L' ρ'=>c L' (sV d ρ') K
     | false=>c L (bL d .und (bL (some s) (.bool true) ρ)) K)
    (match a with
     | false=>vE P PS o d L (bL (some s) (.bool false) ρ) fun L' ρ'=>c L' (sV d ρ') K
     | true=>c L (bL d .und (bL (some s) (.bool false) ρ)) K)
  | false,.und=>c L (bL d .und ρ) K
  | _,_=>False
def AP (P:Program) (PS:qJ) (b:List Nat) (s:aB) (a:TL->aY->TK->Prop) (L:TL) (ρ:aY) (K:TK):Prop :=
 match s with
 | .pc d o none=>EZ P PS b o d L ρ fun L' ρ'=>a L' ρ' K
 | s=>stepT P PS true s a L ρ K
noncomputable def d9 (P:Program) (PS:qJ) (a:Bool) (ss:List aB):TL->aY->TK->Prop :=
 List.rec (motive:=fun _=>TL->aY->TK->Prop) (fun L ρ K=>K L ρ) (fun s _ b L ρ K=>stepT P PS a s b L ρ K) ss
noncomputable def lp (P:Program) (PS:qJ) (a:List Nat) (ss:List aB):TL->aY->TK->Prop :=
 List.rec (motive:=fun _=>TL->aY->TK->Prop) (fun L ρ K=>K L ρ) (fun s _ b L ρ K=>AP P PS a s b L ρ K) ss
theorem kI {P:Program}{PS:qJ}{b:List Nat}{s:aB}{a:List aB}{L:TL}{ρ:aY}{K:TK}:lp P PS b (s::a) L ρ K=AP P PS b s (lp P PS b a) L ρ K:=rfl
theorem fV {P:Program}{PS:qJ}{b:Bool}{s:aB}{a:List aB}{L:TL}{ρ:aY}{K:TK}:d9 P PS b (s::a) L ρ K=stepT P PS b s (d9 P PS b a) L ρ K:=rfl
def tM:List C->C
 | [v]=>v
 | l=>.tup l
def rq (L:TL) (ρ:aY):List RV->(List C->Prop)->Prop
 | [],K=>K []
 | (t,none)::l,K=>rq L ρ l fun vs=>K ((ρ t).cel::vs)
 | (t,some (agg,n))::l,K=>match ρ t with
  | .own k off=>match L.get k with
   | some (.box _ cs)=>match dM ((cs.drop off).take n) n with
    | true=>rq L ρ l fun vs=>K ((BP agg ((cs.drop off).take n)).cel::vs)
    | false=>False
   | _=>False
  | _=>False
structure pF (Lin:List TO) (L:TL) (v:C) (R:List TO->C->Prop):Prop where
 out:∃(fz ko:List Nat),yw fz L (fun _=>.any) [v] fun L _ vs =>
  ∃(L1:TL) (c c1:C) (Mo:List TO),vs=[c]/\((L1=L/\c1=c)\/(gives L L1 L1/\Mw L L1 c c1))/\L1.sub ko=some Mo/\bP ko=true/\aW Lin (List.range' 1000 Lin.length) ko=true /\
   (sU [c1]->R (Mo.map (TO.aag (C.ren (cn ko 1000)))) (c1.aar.ren (cn ko 1000)))
def uH (asg:List Nat) (ρ:aY):aY:=fun j=>match gI asg j with | true=>.any | false=>(ρ j).aaO
structure yE (body:TL->aY->TK->Prop) (asg:List Nat) (L:TL) (ρ:aY):Prop where
 out:∃(σ:Type) (x0:σ) (Inv:σ->Prop) (ls:List Nat) (lv:σ->List C) (Lf:σ->TL) (μ:σ->Nat),
  Inv x0/\oJ L (Lf x0) ls (lv x0) ρ/\gives L (Lf x0) (Lf x0)/\(∀x,nJ L (Lf x)=true)/\(∀x,(lv x).length=ls.length) /\
  ∀x,Inv x->sU (lv x)->(∀k o,(Lf x).get k=some o->o.Wf)->body (Lf x) (rm ls (lv x) (uH asg ρ)) fun L' ρ' =>
   ∃x',Inv x'/\oJ L' (Lf x') ls (lv x') ρ'/\gives L' (Lf x') (Lf x')/\μ x'<μ x
def ef:List aB->List Nat
 | []=>[]
 | .frz k::l=>k::ef l
 | .op _ _ _::l=>ef l
 | .pc _ _ _::l=>ef l
def jq:aI->List Nat
 | .reg d=>ef d
 | .regD d=>ef d
 | .regX d=>ef d
 | .seq a b=>jq a++jq b
 | .cond _ a b=>jq a++jq b
 | .block _ c=>jq c
 | .loop _ c=>jq c
 | _=>[]
def tN (L:TL):List Nat->Bool
 | []=>true
 | k::ks=>match L.get k with | some (.box _ _)=>false | some (.map _)=>false | some (.win _ _ _ _)=>false | _=>tN L ks
def JY:List aB->Bool
 | []=>false
 | .op _ (.copyX _ _ _ _) _::_=>true
 | _::l=>JY l
structure RE (P:Program) (PS:qJ) (ops:List aB) (M:TL) (τ:aY) (N:TK):Prop where
 st:PS.st=none
 out:∀(G:Nat->Option (Nat×TypeId)) (PX:aF->Loc->Value->Prop),
  (∀(F:aF) (L:Loc) (ρ:Env) (M:TL) (τ:aY) (f:Nat) (args:List C) (vs:List Value) (K:TL->aY->C->Prop),TS G F L ρ M τ->aG F L args vs->ou P PS (BM ops) f args M τ K ->
   CallXDPt P PX (BM ops) f vs F L fun F' L' v=>∃M' τ' c,TS G F' L' ρ M' τ'/\aT F' L' c (.v v)/\K M' τ' c) ->
  ∀(F:aF) (L:Loc) (ρ:Env),Real F L->TS G F L ρ M τ->bF P PX (BM ops) ops F L ρ fun F L ρ=>∃M τ,TS G F L ρ M τ/\N M τ
noncomputable def fQ (P:Program) (PS:qJ) (c:aI):(Nat->TK)->TK->TK->TK :=
 aI.rec (motive:=fun _=>(Nat->TK)->TK->TK->TK)
  (fun _ _ N L ρ=>N L ρ)
  (fun a _ _ N L ρ=>d9 P PS false a L ρ N)
  (fun a _ _ N L ρ=>d9 P PS true a L ρ N)
  (fun a _ _ N L ρ=>match AO a L with | true=>(match JY a with | true=>RE P PS a L ρ N | false=>lp P PS (BM a) a L ρ N) | false=>False)
  (fun _ _ d b E R N L ρ=>d E R (fun L ρ=>b E R N L ρ) L ρ)
  (fun c _ _ d b E R N L ρ=>match cB ρ c with
   | .bool t=>xS t (d E R N L ρ) (b E R N L ρ)
   | _=>False)
  (fun id _ e E R N L ρ=>e (fun j=>match Nat.beq j id with | true=>N | false=>E j) R N L ρ)
  (fun asg c e E R _ L ρ=>match tN L (jq c) with | true=>yE (fun L ρ K=>e E R K L ρ) asg L ρ | false=>False)
  (fun id E _ _ L ρ=>E id L ρ)
  (fun _ R _ L ρ=>R L ρ) c
section
variable {P:Program}{PS:qJ}{E:Nat->TK}{R N:TK}{L:TL}{ρ:aY}
theorem lW:fQ P PS .skip E R N L ρ=N L ρ:=rfl
theorem nL {a:List aB}:fQ P PS (.reg a) E R N L ρ=d9 P PS false a L ρ N:=rfl
theorem lX {a:List aB}:fQ P PS (.regD a) E R N L ρ=d9 P PS true a L ρ N:=rfl
theorem Dq {a:List aB}:fQ P PS (.regX a) E R N L ρ=(match AO a L with | true=>(match JY a with | true=>RE P PS a L ρ N | false=>lp P PS (BM a) a L ρ N) | false=>False):=rfl
theorem nM {a b:aI}:fQ P PS (.seq a b) E R N L ρ=fQ P PS a E R (fun L ρ=>fQ P PS b E R N L ρ) L ρ:=rfl
theorem lY {c:X}{a b:aI}:fQ P PS (.cond c a b) E R N L ρ=(match cB ρ c with
   | .bool t=>xS t (fQ P PS a E R N L ρ) (fQ P PS b E R N L ρ)
   | _=>False):=rfl
theorem kJ {id:Nat}{c:aI}:fQ P PS (.block id c) E R N L ρ=fQ P PS c (fun j=>match Nat.beq j id with | true=>N | false=>E j) R N L ρ:=rfl
theorem lZ {asg:List Nat}{c:aI}:fQ P PS (.loop asg c) E R N L ρ=(match tN L (jq c) with | true=>yE (fun L ρ K=>fQ P PS c E R K L ρ) asg L ρ | false=>False):=rfl
theorem l9 {id:Nat}:fQ P PS (.exit id) E R N L ρ=E id L ρ:=rfl
theorem nN:fQ P PS .ret E R N L ρ=R L ρ:=rfl
end
def wK:Nat->List C->aY
 | _,[]=>fun _=>.und
 | k,v::l=>bL (some k) v (wK (k+1) l)
theorem wf_wrap (k:IntKind) (n:Int):(Lit.int k (k.wrap n)).wf=true:=by
 cases k<;>simp[Lit.wf,IntKind.wrap,IntKind.min,IntKind.max,IntKind.bits,IntKind.signed]<;>(try split)<;>omega
theorem BV (k:IntKind) (n:Int):(Lit.int k n).wf=true↔k.min<=n/\n<=k.max:=by simp[Lit.wf]
theorem F5 (k:IntKind):k.min<=0:=by cases k<;>simp[IntKind.min,IntKind.bits,IntKind.signed]
theorem F7 (k:IntKind):127<=k.max:=by cases k<;>simp[IntKind.max,IntKind.bits,IntKind.signed]
def okB:Value->Prop
 | .int k n=>(Lit.int k n).wf=true
 | .bool _=>True
 | .string s=>s.size<=maxLen
 | _=>False
section
variable {P:Program}{G:Nat->Option (Nat×TypeId)}{F:aF}{L:Loc}{ρ:Env}{M:TL}{τ:aY}
theorem yF {v:Value}(h:okB v):aT F L (Rz v) (.v v):=by
 cases v
 case int k n=>exact⟨.int k n,rfl,by simp only[Rz,Rel];exact⟨trivial,h⟩⟩
 case bool b=>exact⟨.bool b,rfl,by simp only[Rz,Rel]⟩
 case string b=>exact⟨.string b,rfl,by simp only[Rz,Rel];exact⟨trivial,h⟩⟩
 all_goals exact h.elim
theorem Nl {k:IntKind}{a b:Int}(h:(Lit.int k a).wf=true):(Lit.int k (a.tmod b)).wf=true:=by
 rw[BV] at h ⊢;have e:=F5 k;have j:=F7 k
 by_cases d:0<=a
 ·have:=Int.tmod_nonneg b d;have c:a.tmod b<=a:=by
   have:(a.tmod b).natAbs<=a.natAbs:=by rw[Int.natAbs_tmod];exact Nat.mod_le _ _
   omega
  omega
 ·have c:(a.tmod b).natAbs<=a.natAbs:=by rw[Int.natAbs_tmod];exact Nat.mod_le _ _
  have f:a.tmod b<=0:=by
   have:=Int.tmod_nonneg b (show 0<=-a by omega);rw[Int.neg_tmod] at this;omega
  omega
theorem Nm {k:IntKind}{a:Int}{m:Nat}(h:(Lit.int k a).wf=true):(Lit.int k (a.fdiv (2 ^ m))).wf=true:=by
 rw[BV] at h ⊢;have f:=F5 k;have j:=F7 k;have b:(0:Int)<2 ^ m:=Int.pow_pos (by omega);rw[Int.fdiv_eq_ediv_of_nonneg _ (by omega)]
 by_cases c:0<=a
 ·have e:=Int.ediv_nonneg c (Int.le_of_lt b);have d:=Int.ediv_le_self (2 ^ m) c;omega
 ·have e:a / 2 ^ m<0:=Int.ediv_neg_of_neg_of_pos (by omega) b;have d:a<=a / 2 ^ m:=by
   have:a*1<=a / 2 ^ m:=by
    apply Int.le_ediv_of_mul_le b;rw[Int.mul_one];have:a*2 ^ m<=a*1:=Int.mul_le_mul_of_nonpos_left (by omega) (by omega);omega
   omega
  omega
theorem HT {op:BinOp}{k:IntKind}{a b:Int}{K K':Value->Prop}(d:(Lit.int k a).wf=true) (h:binI op k a b K) (c:∀v,okB v->K v->K' v):binI op k a b K':=by
 cases op<;>simp only[binI] at h ⊢<;>first
  | exact h.elim
  | exact⟨c _ (wf_wrap _ _) h.out⟩
  | exact⟨h.ne,⟨c _ (wf_wrap _ _) h.out.out⟩⟩
  | exact⟨h.ne,c _ (Nl d) h.out⟩
  | exact c _ (wf_wrap _ _) h
  | exact c _ trivial h
theorem JZ {op:BinOp}{k:IntKind}{a b:Int}{K K':Value->Prop}(d:(Lit.int k a).wf=true) (h:shI op k a b K) (c:∀v,okB v->K v->K' v):shI op k a b K':=by
 cases op<;>simp only[shI] at h ⊢<;>first
  | exact h.elim
  | exact⟨h.1,⟨c _ (wf_wrap _ _) h.2.out⟩⟩
  | exact⟨h.1,c _ (Nm d) h.2⟩
theorem HU {op:BinOp}{a b:ByteArray}{K K':Value->Prop}(h:binS op a b K) (c:∀v,okB v->K v->K' v):binS op a b K':=by
 cases op<;>simp only[binS] at h ⊢<;>first
  | exact h.elim
  | exact c _ trivial h
  | exact⟨h.1,c _ (by
    have d:=h.1;simp[IntKind.max,IntKind.bits,IntKind.signed] at d;show(a++b).size<=maxLen;rw[ByteArray.size_append];simp only[maxLen];omega) h.2⟩
theorem BW (v:Value):Rel F L (sS v) v:=by
 unfold sS;split
 ·split
  ·rename_i h;simp only[Rel];exact⟨trivial,h⟩
  ·simp only[Rel]
 ·simp only[Rel]
 ·split
  ·rename_i h;simp only[Rel];exact⟨trivial,aa3 h⟩
  ·simp only[Rel]
 ·simp only[Rel]
 ·simp only[Rel]
 ·simp only[Rel]
 ·simp only[Rel];exact Bv
 ·simp only[Rel]
 ·simp only[Rel]
theorem mg:∀vs:List Value,aG F L (vs.map sS) vs
 | []=>by simp only[abL,aG]
 | v::vs=>by simp only[aaU,aG];exact⟨v,vs,rfl,BW v,mg vs⟩
theorem TI (v:Value):aT F L (sS v) (.v v):=by
 have h:=BW (F:=F) (L:=L) v
 revert h
 unfold sS;split
 ·split
  ·exact fun h=>⟨_,rfl,h⟩
  ·exact fun h=>trivial
 ·exact fun h=>⟨_,rfl,h⟩
 ·split
  ·exact fun h=>⟨_,rfl,h⟩
  ·exact fun h=>trivial
 ·exact fun h=>⟨_,rfl,h⟩
 ·exact fun h=>⟨_,rfl,h⟩
 ·exact fun h=>⟨_,rfl,h⟩
 ·exact fun h=>⟨_,rfl,h⟩
 ·exact fun h=>⟨_,rfl,h⟩
 ·exact fun h=>trivial
theorem RF (v:Value):aT F L (cv v) (.v v):=by
 unfold cv;split
 ·rename_i cs;exact⟨_,rfl,by simp only[Rel];exact⟨cs.toList,by simp,mg _⟩⟩
 ·exact TI v
theorem dS (h:∀j,aT F L (τ j) (ρ j)) (x:X):aT F L (cB τ x) (ev ρ x):=by
 cases x with
 | t n=>exact h n
 | c v=>exact RF v
 | fn f=>exact⟨_,rfl,by simp only[cB,Rel];exact⟨[],[],by simp,by simp only[aG],by simp only[aG]⟩⟩
 | mt nm n =>
  have a:=h n;simp only[cB,ev,Zn];split
  ·rename_i t c e;rw[e] at a;simp only[aT] at a ⊢;obtain⟨v,b,d⟩:=a;rw[b];refine⟨_,rfl,?_⟩;simp only[Rel] at d ⊢;exact⟨v,rfl,d⟩
  ·rename_i t k off e;rw[e] at a;simp only[aT,Rel] at a ⊢;obtain⟨v,b,g,l,cs,m,rfl⟩:=a;rw[b];exact⟨_,rfl,g,l,cs,m,rfl⟩
  ·simp only[aT]
theorem fp {x:X}{k:IntKind}{n:Int}(h:∀j,aT F L (τ j) (ρ j)) (e:cB τ x=.int k n):ev ρ x=.v (.int k n)/\(Lit.int k n).wf=true:=by
 have:=dS h x;rw[e] at this;simp only[aT,Rel] at this;obtain⟨v,b,rfl,a⟩:=this;exact⟨b,a⟩
theorem jc {x:X}{b:Bool}(h:∀j,aT F L (τ j) (ρ j)) (e:cB τ x=.bool b):ev ρ x=.v (.bool b):=by
 have:=dS h x;rw[e] at this;simp only[aT,Rel] at this;obtain⟨v,a,rfl⟩:=this;exact a
theorem kK {x:X}{s:ByteArray}(h:∀j,aT F L (τ j) (ρ j)) (e:cB τ x=.str s):ev ρ x=.v (.string s)/\s.size<=maxLen:=by
 have:=dS h x;rw[e] at this;simp only[aT,Rel] at this;obtain⟨v,b,rfl,a⟩:=this;exact⟨b,a⟩
theorem RG {x:X}{els:List (List C)}(h:∀j,aT F L (τ j) (ρ j)) (e:cB τ x=.sl els) :
  ∃a c sz,ev ρ x=.v (.slice a els.length c)/\els.length<=c/\els.length<=maxLen/\(a=none->els=[]/\c=0)/\gS F a sz 0 els:=by
 have:=dS h x;rw[e] at this;simp only[aT,Rel] at this;obtain⟨v,l,a,c,rfl,d,b,k,sz,f⟩:=this;exact⟨a,c,sz,l,d,b,k,f⟩
theorem pG {x:X}(h:∀j,aT F L (τ j) (ρ j)) (e:cB τ x=.nils):ev ρ x=.v (.slice none 0 0):=by
 have:=dS h x;rw[e] at this;simp only[aT,Rel] at this;obtain⟨v,a,rfl⟩:=this;exact a
theorem tO {x:X}{k:Nat}(h:∀j,aT F L (τ j) (ρ j)) (e:cB τ x=.rw k):∃a c t sz n xs,ev ρ x=.v (.slice a n c)/\L.get k=some (.row (.slice a n c) t sz n xs):=by
 have:=dS h x;rw[e] at this;simp only[aT,Rel] at this;obtain⟨v,d,a,c,t,sz,n,xs,rfl,b⟩:=this;exact⟨a,c,t,sz,n,xs,d,b⟩
theorem fG {x:X}{k off:Nat}(h:∀j,aT F L (τ j) (ρ j)) (e:cB τ x=.own k off):ev ρ x=.own k off/\∃g t cs,L.get k=some (.box g t cs):=by
 have:=dS h x;rw[e] at this;simp only[aT] at this;exact this
theorem nO {x:X}{k off:Nat}(h:∀j,aT F L (τ j) (ρ j)) (e:cB τ x=.ownv k off):∃g t cs,L.get k=some (.box g t cs)/\Vt (ev ρ x) (.pointer (some ⟨g,off,none⟩)):=by
 have:=dS h x;rw[e] at this;simp only[aT,Rel] at this;obtain⟨v,b,g,t,cs,a,rfl⟩:=this;exact⟨g,t,cs,a,b⟩
theorem tP {x:X}{f:Nat}{fi ca:List C}(h:∀j,aT F L (τ j) (ρ j)) (e:cB τ x=.fn f fi ca):∃b a,ev ρ x=.v (.func (.func f) b.toArray a.toArray)/\aG F L fi b/\aG F L ca a:=by
 have:=dS h x;rw[e] at this;simp only[aT,Rel] at this;obtain⟨v,k,b,a,rfl,d,c⟩:=this;exact⟨b,a,k,d,c⟩
theorem xk {x:X}{cs:List C}(h:∀j,aT F L (τ j) (ρ j)) (e:cB τ x=.agg cs):∃vs,ev ρ x=.v (.agg vs.toArray)/\aG F L cs vs:=by
 have:=dS h x;rw[e] at this;simp only[aT,Rel] at this;obtain⟨v,b,vs,rfl,a⟩:=this;exact⟨vs,b,a⟩
theorem Nn {x:X}{cs:List C}(h:∀j,aT F L (τ j) (ρ j)) (e:cB τ x=.tup cs):∃vs,ev ρ x=.v (.tuple vs.toArray)/\aG F L cs vs:=by
 have:=dS h x;rw[e] at this;simp only[aT,Rel] at this;obtain⟨v,b,vs,rfl,a⟩:=this;exact⟨vs,b,a⟩
theorem J0 {x:X}(h:∀j,aT F L (τ j) (ρ j)) (e:cB τ x=.nilp):ev ρ x=.v (.pointer none):=by
 have:=dS h x;rw[e] at this;simp only[aT,Rel] at this;obtain⟨v,a,rfl⟩:=this;exact a
theorem J1 {x:X}(h:∀j,aT F L (τ j) (ρ j)) (e:cB τ x=.nilf):ev ρ x=.v .nilFunc:=by
 have:=dS h x;rw[e] at this;simp only[aT,Rel] at this;obtain⟨v,a,rfl⟩:=this;exact a
theorem BX {x:X}{t:TypeId}{c:C}(h:∀j,aT F L (τ j) (ρ j)) (e:cB τ x=.ifc t c):∃u,ev ρ x=.v (.iface t u)/\Rel F [] c u:=by
 have:=dS h x;rw[e] at this;simp only[aT,Rel] at this;obtain⟨v,b,u,rfl,a⟩:=this;exact⟨u,b,a⟩
theorem qg {x:X}{m:Option String}{t:TypeId}{k off:Nat}(h:∀j,aT F L (τ j) (ρ j)) (e:cB τ x=.ifo m t k off):∃g a cs,L.get k=some (.box g a cs)/\ev ρ x=.v (Dn m t (.pointer (some ⟨g,off,none⟩))):=by
 have:=dS h x;rw[e] at this;simp only[aT,Rel] at this;obtain⟨v,c,g,a,cs,b,rfl⟩:=this;exact⟨g,a,cs,b,c⟩
theorem BZ {x:X}{k:Nat}(h:∀j,aT F L (τ j) (ρ j)) (e:cB τ x=.opq k):∃v,ev ρ x=.v v/\j7 k F v:=by
 have:=dS h x;rw[e] at this;simp only[aT,Rel] at this;exact this
theorem yG {x:X}{nm:String}{c:C}(h:∀j,aT F L (τ j) (ρ j)) (e:cB τ x=.mval nm c):∃u,ev ρ x=.v (.func (.method nm) #[u] #[])/\Rel F [] c u:=by
 have:=dS h x;rw[e] at this;simp only[aT,Rel] at this;obtain⟨v,b,u,rfl,a⟩:=this;exact⟨u,b,a⟩
theorem Np {x:X}{t:TypeId}{nm:String}(h:∀j,aT F L (τ j) (ρ j)) (e:cB τ x=.mof t nm):ev ρ x=.v (.func (.methodOf t nm) #[] #[]):=by
 have:=dS h x;rw[e] at this;simp only[aT,Rel] at this;obtain⟨v,a,rfl⟩:=this;exact a
theorem F8 {x:X}{k:Nat}{a:List Nat}(h:∀j,aT F L (τ j) (ρ j)) (e:cB τ x=.slo k a):∃g t cs b,L.get k=some (.box g t cs)/\ev ρ x=.v (.slice (some b) a.length a.length)/\a.length<=maxLen/\cg F (some b) 0 (a.map fun o=>.pointer (some ⟨g,o,none⟩)):=by
 have:=dS h x;rw[e] at this;simp only[aT,Rel] at this;obtain⟨v,c,g,t,cs,b,l,rfl,f,d⟩:=this;exact⟨g,t,cs,b,l,c,f,d⟩
theorem Nq {x:X}{k j:Nat}{a:List Nat}(h:∀j,aT F L (τ j) (ρ j)) (e:cB τ x=.slp k a j):∃g t cs b,L.get k=some (.box g t cs)/\ev ρ x=.el (some b) j/\cg F (some b) 0 (a.map fun o=>.pointer (some ⟨g,o,none⟩)):=by
 have:=dS h x;rw[e] at this;simpa only[aT] using this
theorem E0 {F:aF}{f:Addr}{vs:List Value}{j:Nat}{v:Value}(h:cg F (some f) 0 vs) (m:vs[j]?=some v):cg F (some f) j [v]:=by
 obtain⟨b,a,t,l,e,hb,c,k⟩:=h;refine⟨b,a,t,l,e,hb,c,fun i u d=>?_⟩;cases i with
 | zero =>
  simp only[aa2,w7] at d;subst d;have:=k j v m;simpa using this
 | succ i=>simp at d
theorem qh {x:X}{es:List C}{off:Nat}(h:∀j,aT F L (τ j) (ρ j)) (e:cB τ x=.pt es off) :
  ∃b o j vs,(ev ρ x=.v (.pointer (some ⟨b,o,none⟩))/\j=0\/ev ρ x=.el (some ⟨b,o,none⟩) j)/\Ni F b (o+j) off vs/\dZ es=true/\aG F [] es vs:=by
 have:=dS h x;rw[e] at this;simp only[aT] at this;exact this
theorem uI {x:X}{k j off:Nat}(h:∀j,aT F L (τ j) (ρ j)) (e:cB τ x=.elr k j off) :
  ∃a t sz n c xs,ev ρ x=.el (some a) (j*sz+off)/\L.get k=some (.row (.slice (some a) n c) t sz n xs):=by
 have:=dS h x;rw[e] at this;simp only[aT] at this;exact this
theorem lq (h:dH F L M) {k:Nat}{t:TypeId}{cs:List C}(e:M.get k=some (.box t cs)):∃g a vs,L.get k=some (.box g a vs)/\aG F L cs vs/\tyOk t g a:=by
 have:=h k;rw[e] at this;cases b:L.get k with
 | none=>rw[b] at this;exact this.elim
 | some o =>
  rw[b] at this;cases o with
  | row=>exact this.elim
  | box g a vs=>obtain⟨d,c⟩:=this;exact⟨g,a,vs,rfl,c,d⟩
theorem tQ (h:dH F L M) {k:Nat}{t:TypeId}{pre cs post:List C}(e:M.get k=some (.win t pre cs post)):∃g a v1 b v3,L.get k=some (.box g a (v1++(b++v3)))/\aG F [] pre v1/\aG F L cs b/\aG F [] post v3/\tyOk t g a:=by
 have:=h k;rw[e] at this;cases c:L.get k with
 | none=>rw[c] at this;exact this.elim
 | some o =>
  rw[c] at this;cases o with
  | row=>exact this.elim
  | box g a vs=>obtain⟨f,v1,b,v3,rfl,d,j,l⟩:=this;exact⟨g,a,v1,b,v3,rfl,d,j,l,f⟩
theorem Dr {v1 a v3:List Value}{o n:Nat}(c:((a.drop o).take n).length=n) (b:o+n<=a.length):((v1++(a++v3)).drop (v1.length+o)).take n=(a.drop o).take n:=by
 rw[List.drop_append,List.drop_eq_nil_of_le (by omega),aa5,show v1.length+o-v1.length=o by omega,List.drop_append,List.take_append_of_le_length (by simp;omega)]
theorem lu (h:dH F L M) {k:Nat}{t:TypeId}{sz:Nat}{els:List (List C)}(e:M.get k=some (.row t sz els)) :
  ∃v xs,L.get k=some (.row v t sz els.length xs)/\(els.length<=maxLen/\∃a c,v=.slice a els.length c/\(a=none->els.length=0))/\aP F sz els xs:=by
 have:=h k;rw[e] at this;cases b:L.get k with
 | none=>rw[b] at this;exact this.elim
 | some o =>
  rw[b] at this;cases o with
  | box=>exact this.elim
  | row v l f n xs=>obtain⟨rfl,rfl,rfl,d,j⟩:=this;exact⟨v,xs,rfl,d,j⟩
theorem cu (h:dH F L M) {k:Nat}(e:M.get k=none):L.get k=none:=by
 have:=h k;rw[e] at this;cases a:L.get k with
 | none=>rfl
 | some o=>rw[a] at this;exact this.elim
theorem bJ:∀{l:List C}{n:Nat},dM l n=true->l.length=n
 | [],0,_=>rfl
 | [],n+1,h=>by simp[dM] at h
 | _::l,0,h=>by simp[dM] at h
 | _::l,n+1,h=>by simp only[dM] at h;simp[bJ h]
theorem dJ:∀{l:List Value}{n:Nat},l.length=n->fZ l n=true
 | [],0,_=>rfl
 | [],n+1,h=>by simp at h
 | _::l,0,h=>by simp at h
 | _::l,n+1,h=>by simp only[fZ];exact dJ (by simpa using h)
theorem kM {c:C}{v:Value}(h:Rel F L c v):aT F L c.slt (.v v):=by
 cases c<;>(try simp only[C.slt])<;>try exact⟨v,rfl,h⟩
 case any=>trivial
 case pt es off =>
  simp only[Rel] at h;obtain⟨b,o,vs,rfl,d,a⟩:=h;exact⟨b,o,0,vs,.inl ⟨rfl,rfl⟩,d,a⟩
 case own=>exact⟨v,.inl rfl,h⟩
 case ownv=>exact h.elim
 case elr=>trivial
 case slp=>trivial
theorem cN {agg:Bool}{cs:List C}{vs:List Value}(h:aG F L cs vs):aT F L (BP agg cs) (.v (gZ agg vs)):=by
 cases agg with
 | true=>exact⟨_,rfl,by simp only[BP,gZ,Rel];exact⟨vs,rfl,h⟩⟩
 | false =>
  match cs,vs,h with
  | [],vs,h=>trivial
  | [c],vs,h =>
   simp only[aG] at h;obtain⟨v,a,rfl,b,rfl⟩:=h;exact kM b
  | _::_::_,vs,h=>trivial
theorem Vt.conc {sv:SV}{v:Value}(h:Vt sv v):Fr.conc L sv=v:=by
 rcases h with rfl | ⟨b,o,j,rfl,rfl⟩
 ·rfl
 ·simp only[Fr.conc,cA]
theorem Nr {c:C}{sv:SV}(h:aT F L c sv) (q:c.one=true\/(∃k o,c=.ownv k o)\/c=.any\/(∃k j o,c=.elr k j o)\/(∃l,c=.agg l)\/(∃l,c=.tup l)\/c=.und\/(∃k o,c=.slo k o)\/(∃k o j,c=.slp k o j)):Rel F L c.cel (conc L sv):=by
 cases c<;>simp only[C.cel]<;>simp only[aT] at h
 case own k off =>
  obtain⟨rfl,g,t,cs,h⟩:=h;simp only[Rel,conc,h];exact⟨g,t,cs,rfl,rfl⟩
 case ownv k off =>
  obtain⟨v,p,h⟩:=h;rw[p.conc];exact h
 case pt es off =>
  obtain⟨b,o,j,vs,m,a,d,e⟩:=h;simp only[Rel];rcases m with⟨rfl,rfl⟩ | rfl
  ·exact⟨b,o,vs,rfl,a,d,e⟩
  ·exact⟨b,o+j,vs,by simp only[conc,cA],a,d,e⟩
 case elr =>
  obtain⟨f,t,sz,n,c,xs,rfl,h⟩:=h;simp only[Rel];exact⟨f,t,sz,n,c,xs,rfl,h⟩
 case slp=>simp only[Rel]
 case any=>simp only[Rel]
 all_goals
  obtain⟨v,rfl,h⟩:=h;simpa only[conc] using h
theorem mh {c:C}{sv:SV}(h:aT F L c sv):Rel F L c.cel (conc L sv):=by
 apply Nr h;cases c<;>simp[C.one]
theorem uJ (h:∀j,aT F L (τ j) (ρ j)) (x:X):Rel F L (cB τ x).cel (val L ρ x):=mh (dS h x)
theorem dD (h:∀j,aT F L (τ j) (ρ j)):∀xs:List X,aG F L (eP τ xs) (bE L ρ xs)
 | []=>by simp only[eP,bE,aG]
 | x::xs=>by simp only[eP,bE,aG];exact⟨_,_,rfl,uJ h x,dD h xs⟩
theorem E4 {c:C}{sv:SV}(h:aT F L c sv) (e:c.okc=true):aG F L (ct c) (aM (conc L sv)):=by
 have a:=mh h;cases c<;>simp only[C.okc,aaZ] at e<;>simp only[ct]<;>simp only[C.cel] at a ⊢
 case agg cs =>
  simp only[Rel] at a;obtain⟨vs,b,d⟩:=a;rw[b];simpa only[aM] using d
 all_goals
  simp only[aG];refine⟨_,[],?_,a,rfl⟩
  revert a
  generalize conc L sv=v;intro a;simp only[Rel] at a
  first
   | (have b:=j7.one a;cases v<;>first | rfl | (exact p7 b (by decide)) | (simp[Value.oneCell'] at b))
   | (obtain⟨rfl,_⟩:=a;rfl)
   | (subst a;rfl)
   | (obtain⟨_,rfl,_⟩:=a;rfl)
   | (obtain⟨_,_,rfl,_⟩:=a;rfl)
   | (obtain⟨_,_,_,rfl,_⟩:=a;rfl)
   | (obtain⟨_,_,_,_,_,_,rfl,_⟩:=a;rfl)
   | (obtain⟨_,_,_,_,rfl⟩:=a;rfl)
   | (obtain⟨_,_,_,_,rfl⟩:=a;unfold Dn;split<;>rfl)
theorem eJ (h:∀j,aT F L (τ j) (ρ j)) {x:X}(a:(cB τ x).okc=true):aG F L (ct (cB τ x)) (aM (val L ρ x)):=E4 (dS h x) a
theorem gT {cs:List C}{vs:List Value}{off:Nat}{ds:List C}{us:List Value}(h:aG F L cs vs) (k:aG F L ds us):aG F L (fN cs off ds) (aR vs off us):=by
 simp only[fN,aR];rw[<-k.len];exact((h.take off).append k).append (h.drop _)
theorem AQ (h:∀j,aT F L (τ j) (ρ j)):∀(ps:List (Nat×Nat×X)) {zs:List C}{vs:List Value}{cs:List C},aG F L zs vs->vB τ zs ps=some cs->∃us,built L ρ vs ps=some us/\aG F L cs us
 | [],zs,vs,cs,a,hb=>by
  simp only[vB,w7] at hb;subst hb;exact⟨vs,rfl,a⟩
 | (off,n,x)::ps,zs,vs,cs,a,hb=>by
  simp only[vB] at hb;split at hb
  case h_2=>cases hb
  rename_i e d;have b:=eJ h e;have c:fZ (aM (val L ρ x)) n=true:=dJ (by rw[b.len];exact bJ d);simp only[built,c];exact AQ h ps (gT a b) hb
theorem xq (h:∀j,aT F L (τ j) (ρ j)) {d i:Int}{x:Option X}(e:HO τ d x=some i):jZ ρ d x=some i:=by
 cases x with
 | none=>exact e
 | some x =>
  simp only[HO] at e;split at e
  case h_2=>cases e
  rename_i k j a;injection e with e
  subst e;simp only[jZ,(fp h a).1]
theorem J2 (h:∀j,aT F L (τ j) (ρ j)) (mx:Bool):∀(args:List X) {a m:Int},Vs mx a (args.map (cB τ))=some m->P1 mx a (args.map (ev ρ))=some m
 | [],a,m,e=>e
 | x::args,a,m,e=>by
  simp only[aaU] at e ⊢;cases b:cB τ x<;>rw[b] at e<;>simp only[Vs,reduceCtorEq] at e;rw[(fp h b).1];exact J2 h mx args e
theorem J3 {a:Option Addr}{sz:Nat}{els:List (List C)}{c l h:Nat}(m:gS F a sz 0 els) (hn:a=none->els=[]/\c=0) (z:l<=h) (hh:h<=els.length) (hc:els.length<=c) :
  gS F (if c=l then a else a.map (·.add (l*sz))) sz 0 ((els.drop l).take (h-l)):=by
 rw[nI] at m ⊢;intro j es d;rw[abo] at d;split at d
 case isFalse=>cases d
 rename_i y;rw[abm] at d;obtain⟨vs,q,p,r,u⟩:=m _ es d;have x:l+j<els.length:=(xD.1 d).1;rw[vv (by omega)];refine⟨vs,q,?_,r,u⟩;obtain⟨n,k,t,s,e,hb,f,w⟩:=p;subst e;obtain⟨b,o,sp⟩:=n;simp only at f;subst f;refine⟨⟨b,o+l*sz,none⟩,k,t,s,by simp only[abF,cA],hb,rfl,fun i v hi=>?_⟩;have:=w i v hi;simp only[Nat.zero_add,Nat.add_mul] at this ⊢;rw[show o+l*sz+j*sz+i=o+(l*sz+j*sz)+i by omega];exact this
theorem kN {b o j off n:Nat}{es:List C}{vs:List Value}(f:Ni F b (o+j) off vs):cg F (some ⟨b,o,none⟩) j ((vs.drop off).take n):=by
 obtain⟨d,a,t,e,l,k,h⟩:=f;refine⟨_,a,t,e,rfl,l,rfl,fun i v c=>?_⟩;rw[abo] at c;split at c
 case isFalse=>cases c
 rw[abm] at c;have:=h _ _ c;show a[o+j+i]?=_/\pT e (o+j+i);rw[k,Nat.add_assoc];exact this
theorem eZ {L':Loc}{cs:List C}{vs:List Value}(p:eH cs=true) (h:aG F L cs vs):aG F L' cs vs:=by
 have b:∀(c:C) (v:Value),c.aak=true->Rel F L c v->Rel F L' c v:=by
  intro c v d h;cases c<;>simp only[C.aak,aaZ] at d<;>simp only[Rel] at h ⊢<;>exact h
 have a:∀(cs:List C) (vs:List Value),jN cs=true->aG F L cs vs->aG F L' cs vs:=by
  intro cs vs d h;rw[kH] at h ⊢;exact⟨h.1,fun i c v e f=>b c v (rp.1 d c (aaS e)) (h.2 i c v e f)⟩
 rw[kH] at h ⊢;refine⟨h.1,fun i c v e f=>?_⟩;have d:=qe.1 p c (aaS e);have k:=h.2 i c v e f;cases c<;>first
  | exact b _ _ d k
  | (simp only[C.pure,C.aak,aaZ] at d;done)
  | (simp only[C.pure] at d
     split at d
     case h_2=>cases d
     rename_i m;simp only[Rel] at k ⊢;obtain⟨j,l,n,o,q⟩:=k;exact⟨j,l,n,a _ _ m o,a _ _ d q⟩)
theorem vF {els:List (List C)}{v:Value}(h:Rel F L (.slx els) v):Rel F L (.sl els) v:=by
 simp only[Rel] at h ⊢;obtain⟨a,d,c,sz,b⟩:=h;exact⟨some a,els.length,d,aa8 _,c,fun e=>(by cases e),sz,b⟩
theorem uK {c:C}{v:Value}(h:Rel F L c v):Rel F L c.can v:=by
 cases c<;>first
  | exact h
  | exact vF h
  | (simp only[Rel] at h
     subst h;simp only[C.can,Rel];exact⟨none,0,by simp,by simp,by simp,fun _=>by simp,0,by simp only[gS]⟩)
theorem kO {cs:List C}{vs:List Value}(h:aG F L cs vs):aG F L (cs.map C.can) vs:=h.map fun c _ v=>uK
theorem jd {c:C}{v:Value}(h:Rel F L c v):Rel F L c.aaj v:=by
 cases c<;>first
  | exact h
  | exact uK (c:=.nils) h
  | exact vF h
  | (simp only[Rel] at h
     obtain⟨vs,b,a⟩:=h;simp only[C.aaj,Rel];exact⟨vs,b,kO a⟩)
theorem J4 {c:C}{sv:SV}(h:aT F L c sv):aT F L c.can sv:=by
 cases c<;>first
  | exact h
  | (obtain⟨v,e,a⟩:=h;exact⟨v,e,vF a⟩)
  | (obtain⟨v,e,a⟩:=h;exact⟨v,e,uK (c:=.nils) a⟩)
theorem kP {x:X}{els:List (List C)}(h:∀j,aT F L (τ j) (ρ j)) (e:(cB τ x).can=.sl els) :
  ∃a c sz,ev ρ x=.v (.slice a els.length c)/\els.length<=c/\els.length<=maxLen/\(a=none->els=[]/\c=0)/\gS F a sz 0 els:=by
 have:=J4 (dS h x);rw[e] at this;simp only[aT,Rel] at this;obtain⟨v,l,a,c,rfl,d,b,k,sz,f⟩:=this;exact⟨a,c,sz,l,d,b,k,f⟩
theorem Ns {c:C}{k:Nat}(e:c.can=.opq k):c=.opq k:=by cases c<;>simp only[C.can,reduceCtorEq] at e<;>exact e
theorem F9 {c:C}{k:Nat}{a:List Nat}(e:c.can=.slo k a):c=.slo k a:=by cases c<;>simp only[C.can,reduceCtorEq] at e<;>exact e
theorem B0 {c:C}{k:Nat}(e:c.can=.rw k):c=.rw k:=by cases c<;>simp only[C.can,reduceCtorEq] at e<;>exact e
theorem B6 {x:X}{els:List (List C)}(h:∀j,aT F L (τ j) (ρ j)) (e:cB τ x=.slx els) :
  ∃a sz,ev ρ x=.v (.slice (some a) els.length els.length)/\els.length<=maxLen/\gS F (some a) sz 0 els:=by
 have:=dS h x;rw[e] at this;simp only[aT,Rel] at this;obtain⟨v,d,a,rfl,c,sz,b⟩:=this;exact⟨a,sz,d,c,b⟩
theorem Nt {c:C}(h:c.one=true):c.can.one=true:=by cases c<;>first | exact h | rfl
theorem nP {cs:List C}(h:dZ cs=true):dZ (cs.map C.can)=true:=by
 rw[jo] at h ⊢;intro c b;obtain⟨d,a,rfl⟩:=abk.1 b;exact Nt (h d a)
theorem gN {cs:List C}{vs:List Value}(h:aG F L cs vs) (c:dZ cs=true):∀u∈vs,u.oneCell'=true:=by
 intro u d;obtain⟨i,hi⟩:=abf.1 d;have a:i<cs.length:=by rw[<-h.len];exact(xD.1 hi).1
 have b:=h.at (w8 a) hi;exact b.one (jo.1 c _ (List.getElem_mem a))
theorem lO:∀{vs:List Value},(∀u∈vs,u.oneCell'=true)->jQ vs=true
 | [],_=>rfl
 | v::vs,h=>by simp only[jQ,h v (by simp)];exact lO fun u a=>h u (by simp[a])
end
section
variable {P:Program}{G:Nat->Option (Nat×TypeId)}{F:aF}{L:Loc}{ρ:Env}{M:TL}{τ:aY}
theorem je {k:IntKind}{n:Int}(h:(Lit.int k n).wf=true):aT F L (.int k n) (.v (.int k n)):=⟨_,rfl,by simp only[Rel];exact⟨trivial,h⟩⟩
theorem cW {b:Bool}:aT F L (.bool b) (.v (.bool b)):=⟨_,rfl,by simp only[Rel]⟩
theorem uL {s:ByteArray}(h:s.size<=maxLen):aT F L (.str s) (.v (.string s)):=⟨_,rfl,by simp only[Rel];exact⟨trivial,h⟩⟩
theorem J5 {es:List C}{vs:List Value}{c:Addr}{j:Nat}{a:Array Value}{t:TypeId}{e:Nat×Nat}(hb:F c.block=some (.cells a t e)) (d:c.spot=none)
  (f:∀(i:Nat) v,vs[i]?=some v->a[c.off+j+i]?=some v/\pT e (c.off+j+i)) (k:dZ es=true) (h:aG F [] es vs):aT F L (.pt es 0) (.el (some c) j):=by
 obtain⟨b,o,l⟩:=c;simp only at d;subst d;exact⟨b,o,j,vs,.inr rfl,⟨o+j,a,t,e,hb,rfl,f⟩,k,h⟩
theorem AR:∀{p:List UInt8}{xs:List Value},aP F 1 (ak p) xs->xs=p.map fun b=>Value.int .u8 b.toNat
 | [],xs,h=>by simpa[ak,aP] using h
 | b::p,xs,h=>by
  simp only[ak,aaU,aP] at h;obtain⟨vs,d,rfl,j,f,a,e⟩:=h;simp only[aG,Rel] at a;obtain⟨v,c,rfl,⟨rfl,_⟩,rfl⟩:=a;rw[AR (p:=p) e];rfl
theorem wo {a:Option Addr}{sz c:Nat}{bs:List UInt8}(o:gS F a sz 0 (ak bs)) (hn:a=none->ak bs=[]/\c=0) :
  (cg F a 0 (bs.map fun b=>Value.int .u8 b.toNat))\/bs.length=0:=by
 rw[nI] at o;cases hb:bs with
 | nil=>exact .inr rfl
 | cons b0 p =>
  refine .inl ?_;have x:=o 0 [jU b0] (by simp[ak,hb]);obtain⟨us,r,⟨w,l,t,fr,e,f,n,_⟩,_,j⟩:=x;have k:sz=1:=by rw[<-r,j.len];rfl
  subst k;rw[<-hb];refine⟨w,l,t,fr,e,f,n,fun i v hi=>?_⟩;simp only[abt,Option.map_eq_some_iff] at hi;obtain⟨b,m,rfl⟩:=hi;obtain⟨us,r,⟨y,q,t',z,h,d,s,hv⟩,_,j⟩:=o i [jU b] (by simp[ak,m]);rw[e] at h;injection h with h
  subst h;rw[f] at d;injection d with d
  injection d with q1 q2 q3
  subst q1 q3;simp only[aG,Rel] at j;obtain⟨u,aa,rfl,⟨rfl,_⟩,rfl⟩:=j;have:=hv 0 _ (by simp;rfl);simpa using this
theorem Ga {els:List (List C)}{a:Option Addr}{c sz:Nat}(f:els.length<=c) (d:els.length<=maxLen) (b:a=none->els=[]/\c=0) (e:gS F a sz 0 els):aT F L (.sl els) (.v (.slice a els.length c)) :=
 ⟨_,rfl,by simp only[Rel];exact⟨a,c,rfl,f,d,b,sz,e⟩⟩
set_option maxHeartbeats 1000000 in
theorem Nu:∀{ks:List Bool}{cs ds:List C}{e b:Bool}{vs us:List Value},vC ks cs ds e=some b->aG F L cs vs->aG F L ds us->jA ks vs.toArray.toList us.toArray.toList e=some b:=by
 intro ks
 induction ks with
 | nil =>
  intro cs ds e b vs us h d a;cases cs with
  | cons c cs=>simp[vC] at h
  | nil =>
   cases ds with
   | cons c cs=>simp[vC] at h
   | nil =>
    simp only[aG] at d a;subst d a;simpa[jA,vC] using h
 | cons k ks l =>
  intro cs ds e b vs us h d a;cases cs with
  | nil=>cases k<;>simp[vC] at h
  | cons c cs =>
   cases ds with
   | nil=>cases k<;>cases c<;>simp[vC] at h
   | cons m ds =>
    cases k<;>cases c<;>try (simp[vC] at h;done)
    all_goals cases m<;>try (simp[vC] at h;done)
    all_goals simp only[aG,Rel] at d a
    ·obtain⟨v,j,rfl,rfl,d⟩:=d;obtain⟨u,f,rfl,rfl,a⟩:=a;simp only[vC] at h;have:=l h d a;simp only[jA];exact this
    ·obtain⟨v,j,rfl,⟨rfl,_⟩,d⟩:=d;obtain⟨u,f,rfl,⟨rfl,_⟩,a⟩:=a;simp only[vC] at h;split at h
     case h_2=>cases h
     rename_i n;have:=l h d a;simp only[jA,n];exact this
theorem RH (v:Value):Rel F L (cv v) v:=by
 unfold cv;split
 ·rename_i cs;simp only[Rel];exact⟨cs.toList,by simp,mg _⟩
 ·exact BW v
theorem Ca {x:X}{k:Nat}(h:∀j,aT F L (τ j) (ρ j)) (e:cB τ x=.mpr k):∃g cs,ev ρ x=.v (.map (some g))/\L.get k=some (.box g 0 cs):=by
 have:=dS h x;rw[e] at this;simp only[aT,Rel] at this;obtain⟨v,b,g,cs,a,rfl⟩:=this;exact⟨g,cs,b,a⟩
theorem E5 (h:dH F L M) {k:Nat}{es:List (C×C)}(e:M.get k=some (.map es)):∃g vs,L.get k=some (.box g 0 vs)/\jO F es vs:=by
 have:=h k;rw[e] at this;cases a:L.get k with
 | none=>rw[a] at this;exact this.elim
 | some o =>
  rw[a] at this;cases o with
  | row=>exact this.elim
  | box g c vs=>obtain⟨rfl,b⟩:=this;exact⟨g,vs,rfl,b⟩
theorem jO.isMap {es:List (C×C)}{vs:List Value}(h:jO F es vs):og vs=true:=by
 cases es with
 | nil=>simp only[jO] at h;subst h;rfl
 | cons p l =>
  obtain⟨k,c⟩:=p;simp only[jO] at h;obtain⟨kv,v,a,rfl,_⟩:=h;rfl
theorem jO.len:∀{es:List (C×C)}{vs:List Value},jO F es vs->vs.length=es.length
 | [],vs,h=>by simp only[jO] at h;subst h;rfl
 | (k,c)::l,vs,h=>by
  simp only[jO] at h;obtain⟨kv,v,a,rfl,_,_,h⟩:=h;simp[jO.len h]
theorem ru {str:Bool}{a b:C}{u v:Value}{r:Bool}{L':Loc}(h:nH str a b=some r) (c:Rel F L a u) (hb:Rel F L' b v):gD str u v=some r:=by
 unfold nH at h;split at h
 ·simp only[Rel] at c hb;rw[c.1,hb.1];exact h
 ·simp only[Rel] at c hb;rw[c.1,hb.1];exact h
 ·cases h
theorem yH {str:Bool}{key:C}{kv:Value}(d:∀b v r,nH str key b=some r->Rel F [] b v->gD str kv v=some r):∀{es:List (C×C)}{vs:List Value}{o:Option C}(i:Nat),jO F es vs->AL str key es=some o ->
  match o with | some c=>∃j v,nk str kv vs i=some (some (j,v))/\Rel F [] c v | none=>nk str kv vs i=some none
 | [],vs,o,i,h,e=>by
  simp only[jO] at h;subst h;simp only[AL,w7] at e;subst e;rfl
 | (k,c)::l,vs,o,i,h,e=>by
  simp only[jO] at h;obtain⟨u,v,n,rfl,f,m,p⟩:=h;simp only[AL] at e;split at e
  ·rename_i a;injection e with e
   subst e;exact⟨i,v,by simp only[nk,d _ _ _ a f],m⟩
  ·rename_i a;have:=yH d (i+1) p e;simp only[nk,d _ _ _ a f];exact this
  ·cases e
theorem AU {c:C}{v:Value}{b:Bool}(h:Rel F L c v):aT F L (.tup [c,.bool b]) (.v (.tuple #[v,.bool b])) :=
 ⟨_,rfl,by simp only[Rel,aG];exact⟨[v,.bool b],rfl,v,_,rfl,h,_,[],rfl,rfl,rfl⟩⟩
theorem Gb (h:∀j,aT F L (τ j) (ρ j)) {str:Bool}{x:X}:∀b v r,nH str (cB τ x) b=some r->Rel F [] b v->gD str (val L ρ x) v=some r:=by
 intro b v r a hb;refine ru (F:=F) (L:=L) a ?_ hb;have:=uJ h x
 revert this
 cases c:cB τ x<;>rw[c] at a<;>cases str<;>simp only[nH,reduceCtorEq] at a<;>simp only[C.cel]<;>exact fun h=>h
theorem VL {o:eY}{V:C->Prop}(ht:TS G F L ρ M τ) (h:outT o M τ V):aN o F L ρ (fun sv=>∃c,aT F L c sv/\V c):=by
 have he:=ht.env;cases o<;>simp only[outT] at h<;>simp only[aN]
 case mov x=>exact⟨_,dS he x,h⟩
 case pick c a b =>
  split at h
  case h_2=>exact h.elim
  rename_i t hc;rw[jc he hc];cases t
  ·exact⟨_,dS he b,h⟩
  ·exact⟨_,dS he a,h⟩
 case build zs ps =>
  rw[fk] at h;obtain⟨cs,hc,h⟩:=vD h;obtain⟨us,h1,h2⟩:=AQ he ps (mg zs) hc;rw[h1];exact⟨.agg cs,⟨_,rfl,by simp only[Rel];exact⟨us,rfl,h2⟩⟩,h⟩
 case load agg n x =>
  split at h
  ·rename_i k off w;obtain⟨d,_⟩:=fG he w;rw[d];split at h
   case h_3=>exact h.elim
   case h_2 =>
    rename_i t pre cs post hk;obtain⟨g,ty,v1,v2,v3,hL,be,hr,cy,an⟩:=tQ ht.tl hk;rcases h with⟨o,rfl,h⟩ | ⟨us,e,hl,h⟩
    case inr =>
     have p:=((be.lift (L:=L)).drop off).take n;rw[e] at p;have aa:((v1.drop off).take n).length=n:=by rw[p.len];exact bJ hl
     have hp:(((v1++(v2++v3)).drop off).take n)=(v1.drop off).take n:=by
      by_cases bj:n=0
      ·subst bj;simp
      have:off+n<=v1.length:=by simp at aa;omega
      rw[List.drop_append_of_le_length (by omega),List.take_append_of_le_length (by simp;omega)]
     simp only[hL];rw[hp,gF an.2.2 (dJ aa)];exact⟨_,cN p,h⟩
    split at h
    case h_2=>exact h.elim
    rename_i hl;have p:=(hr.drop o).take n;have aa:((v2.drop o).take n).length=n:=by rw[p.len];exact bJ hl
    simp only[hL]
    by_cases bj:n=0
    ·subst bj;rw[gF an.2.2 (dJ (by simp))];simp only[List.take_zero] at h p ⊢;exact⟨_,cN p,h⟩
    have hn:o+n<=v2.length:=by simp at aa;omega
    have hp:=Dr (v1:=v1) (v3:=v3) aa hn;rw[<-be.len,hp,gF an.2.2 (dJ aa)];exact⟨_,cN p,h⟩
   rename_i t cs hk;obtain⟨g,ty,vs,hL,hr,an⟩:=lq ht.tl hk;split at h
   case h_2=>exact h.elim
   rename_i hl;have p:=(hr.drop off).take n;simp only[hL];rw[gF an.2.2 (dJ (by rw[p.len];exact bJ hl))];exact⟨_,cN p,h⟩
  ·rename_i es off w;split at h
   case h_2=>exact h.elim
   rename_i hl;obtain⟨b,o,j,vs,d,hp,ho,hr⟩:=qh he w;have p:aG F L ((es.drop off).take n) ((vs.drop off).take n):=((hr.drop off).take n).lift;rcases d with⟨d,rfl⟩ | d
   ·rw[d];exact⟨_,by rw[p.len];exact bJ hl,.inl (kN (es:=es) hp),_,cN p,h⟩
   ·rw[d];exact⟨_,by rw[p.len];exact bJ hl,.inl (kN (es:=es) hp),_,cN p,h⟩
  ·rename_i k off w;split at h
   case h_3=>exact h.elim
   case h_2 =>
    rename_i t pre cs post hk;obtain⟨g',ty',cX,d,bk⟩:=nO he w;obtain⟨g,ty,v1,v2,v3,hL,be,hr,cy,an⟩:=tQ ht.tl hk;rw[hL] at d;injection d with d
    injection d with q1 q2 q3
    subst q1 q2 q3;rcases h with⟨o,rfl,h⟩ | ⟨us,e,hl,h⟩
    case inr =>
     have p:=((be.lift (L:=L)).drop off).take n;rw[e] at p;have aa:((v1.drop off).take n).length=n:=by rw[p.len];exact bJ hl
     have aE:∀(i:Nat) (u:Value),((v1.drop off).take n)[i]?=some u->(v1++(v2++v3))[off+i]?=some u:=by
      intro i u hu;rw[abo] at hu;split at hu
      case isFalse=>cases hu
      rw[abm] at hu;rw[aaY (xD.1 hu).1];exact hu
     rcases bk with e2 | ⟨b,q,j,e2,e3⟩
     ·rw[e2];exact⟨_,aa,.inr (.inr (.inr ⟨k,g,ty,_,_,hL,an.2.2,rfl,fun i u hu=>by rw[Nat.add_zero];exact aE i u hu⟩)),_,cN p,h⟩
     ·injection e3 with e3
      injection e3 with e3
      injection e3 with q1 q2 q3
      subst q1;rw[e2];exact⟨_,aa,.inr (.inr (.inr ⟨k,g,ty,_,q,hL,an.2.2,rfl,fun i u hu=>by rw[<-q2];exact aE i u hu⟩)),_,cN p,h⟩
    split at h
    case h_2=>exact h.elim
    rename_i hl;have p:=(hr.drop o).take n;have aa:((v2.drop o).take n).length=n:=by rw[p.len];exact bJ hl
    have aE:∀(i:Nat) (u:Value),((v2.drop o).take n)[i]?=some u->(v1++(v2++v3))[pre.length+o+i]?=some u:=by
     intro i u hu;rw[abo] at hu;split at hu
     case isFalse=>cases hu
     rw[abm] at hu;have bu:=(xD.1 hu).1;rw[<-be.len,aa4 (by omega),show v1.length+o+i-v1.length=o+i by omega,aaY bu];exact hu
    rcases bk with e2 | ⟨b,q,j,e2,e3⟩
    ·rw[e2];exact⟨_,aa,.inr (.inr (.inr ⟨k,g,ty,_,_,hL,an.2.2,rfl,fun i u hu=>by rw[Nat.add_zero];exact aE i u hu⟩)),_,cN p,h⟩
    ·injection e3 with e3
     injection e3 with e3
     injection e3 with q1 q2 q3
     subst q1;rw[e2];exact⟨_,aa,.inr (.inr (.inr ⟨k,g,ty,_,q,hL,an.2.2,rfl,fun i u hu=>by rw[<-q2];exact aE i u hu⟩)),_,cN p,h⟩
   rename_i t cs hk;obtain⟨g',ty',cX,d,bk⟩:=nO he w;obtain⟨g,ty,vs,hL,hr,an⟩:=lq ht.tl hk;rw[hL] at d;injection d with d
   injection d with q1 q2 q3
   subst q1 q2 q3;split at h
   case h_2=>exact h.elim
   rename_i hl;have p:=(hr.drop off).take n;have aa:((vs.drop off).take n).length=n:=by rw[p.len];exact bJ hl
   have aE:∀(i:Nat) (u:Value),((vs.drop off).take n)[i]?=some u->vs[off+i]?=some u:=by
    intro i u hu;rw[abo] at hu;split at hu
    case isFalse=>cases hu
    rwa [abm] at hu
   rcases bk with e2 | ⟨b,o,j,e2,e3⟩
   ·rw[e2];exact⟨_,aa,.inr (.inr (.inr ⟨k,g,ty,vs,off,hL,an.2.2,rfl,fun i u hu=>by rw[Nat.add_zero];exact aE i u hu⟩)),_,cN p,h⟩
   ·injection e3 with e3
    injection e3 with e3
    injection e3 with q1 q2 q3
    subst q1 q2;rw[e2];exact⟨_,aa,.inr (.inr (.inr ⟨k,g,ty,vs,o,hL,an.2.2,rfl,fun i u hu=>aE i u hu⟩)),_,cN p,h⟩
  ·rename_i k j off w;split at h
   case h_2=>exact h.elim
   rename_i t sz els hk;obtain⟨es,h1,h2,h3⟩:=h;obtain⟨ad,t',az,m,c,cc,d,e2⟩:=uI he w;obtain⟨v,xs,e3,_,hr⟩:=lu ht.tl hk;rw[e2] at e3;injection e3 with e3
   injection e3 with q1 q2 q3 q4 q5
   subst q2 q3 q5;obtain⟨vs,k1,k2,k3,k4⟩:=hr.at h1;have p:aG F L ((es.drop off).take n) ((vs.drop off).take n):=((k3.drop off).take n).lift;rw[d];refine⟨_,by rw[p.len];exact bJ h2,.inr (.inl ⟨k,_,_,_,_,_,ad,c,e2,rfl,rfl,fun i u hu=>?_⟩),_,cN p,h3⟩;rw[abo] at hu;split at hu
   case isFalse=>cases hu
   rw[abm] at hu;rw[Nat.add_assoc];exact k4 _ _ hu
  ·rename_i k bv j w;split at h
   case h_2=>exact h.elim
   rename_i hn;obtain rfl:=v8 hn;obtain⟨o,h1,h2⟩:=h;obtain⟨g,t,cs,ad,d,e2,e3⟩:=Nq he w;rw[e2];exact⟨_,rfl,.inl (E0 e3 (v:=.pointer (some ⟨g,o,none⟩)) (by rw[abt,h1];rfl)),.ownv k o,⟨_,.inl rfl,by simp only[Rel];exact⟨g,t,cs,d,rfl⟩⟩,h2⟩
  ·exact h.elim
 case loadR agg n x =>
  split at h
  ·rename_i k off w;obtain⟨d,_⟩:=fG he w;rw[d];split at h
   case h_2=>exact h.elim
   rename_i t cs hk;obtain⟨g,ty,vs,hL,hr,an⟩:=lq ht.tl hk;split at h
   case h_2=>exact h.elim
   rename_i hl;have p:=(hr.drop off).take n;simp only[hL];rw[gF an.2.2 (dJ (by rw[p.len];exact bJ hl))];exact⟨_,cN p,h⟩
  ·rename_i es off w;split at h
   case h_2=>exact h.elim
   rename_i hl;obtain⟨b,o,j,vs,d,hp,ho,hr⟩:=qh he w;have p:aG F L ((es.drop off).take n) ((vs.drop off).take n):=((hr.drop off).take n).lift;rcases d with⟨d,rfl⟩ | d
   ·rw[d];exact⟨_,by rw[p.len];exact bJ hl,.inl (kN (es:=es) hp),_,cN p,h⟩
   ·rw[d];exact⟨_,by rw[p.len];exact bJ hl,.inl (kN (es:=es) hp),_,cN p,h⟩
  ·rename_i k off w;split at h
   case h_2=>exact h.elim
   rename_i t cs hk;obtain⟨g',ty',cX,d,bk⟩:=nO he w;obtain⟨g,ty,vs,hL,hr,an⟩:=lq ht.tl hk;rw[hL] at d;injection d with d
   injection d with q1 q2 q3
   subst q1 q2 q3;split at h
   case h_2=>exact h.elim
   rename_i hl;have p:=(hr.drop off).take n;have aa:((vs.drop off).take n).length=n:=by rw[p.len];exact bJ hl
   have aE:∀(i:Nat) (u:Value),((vs.drop off).take n)[i]?=some u->vs[off+i]?=some u:=by
    intro i u hu;rw[abo] at hu;split at hu
    case isFalse=>cases hu
    rwa [abm] at hu
   rcases bk with e2 | ⟨b,o,j,e2,e3⟩
   ·rw[e2];exact⟨_,aa,.inr (.inr (.inr ⟨k,g,ty,vs,off,hL,an.2.2,rfl,fun i u hu=>by rw[Nat.add_zero];exact aE i u hu⟩)),_,cN p,h⟩
   ·injection e3 with e3
    injection e3 with e3
    injection e3 with q1 q2 q3
    subst q1 q2;rw[e2];exact⟨_,aa,.inr (.inr (.inr ⟨k,g,ty,vs,o,hL,an.2.2,rfl,fun i u hu=>aE i u hu⟩)),_,cN p,h⟩
  ·rename_i k j off w;split at h
   case h_2=>exact h.elim
   rename_i t sz els hk;obtain⟨es,h1,h2,h3⟩:=h;obtain⟨ad,t',az,m,c,cc,d,e2⟩:=uI he w;obtain⟨v,xs,e3,_,hr⟩:=lu ht.tl hk;rw[e2] at e3;injection e3 with e3
   injection e3 with q1 q2 q3 q4 q5
   subst q2 q3 q5;obtain⟨vs,k1,k2,k3,k4⟩:=hr.at h1;have p:aG F L ((es.drop off).take n) ((vs.drop off).take n):=((k3.drop off).take n).lift;rw[d];refine⟨_,by rw[p.len];exact bJ h2,.inr (.inl ⟨k,_,_,_,_,_,ad,c,e2,rfl,rfl,fun i u hu=>?_⟩),_,cN p,h3⟩;rw[abo] at hu;split at hu
   case isFalse=>cases hu
   rw[abm] at hu;rw[Nat.add_assoc];exact k4 _ _ hu
  ·exact h.elim
 case loadD agg n x =>
  split at h
  ·rename_i k off w;obtain⟨d,_⟩:=fG he w;rw[d];split at h
   case h_3=>exact h.elim
   case h_2 =>
    rename_i t pre cs post hk;obtain⟨g,ty,v1,v2,v3,hL,be,hr,cy,an⟩:=tQ ht.tl hk;rcases h with⟨o,rfl,h⟩ | ⟨us,e,hl,h⟩
    case inr =>
     have p:=((be.lift (L:=L)).drop off).take n;rw[e] at p;have aa:((v1.drop off).take n).length=n:=by rw[p.len];exact bJ hl
     have hp:(((v1++(v2++v3)).drop off).take n)=(v1.drop off).take n:=by
      by_cases bj:n=0
      ·subst bj;simp
      have:off+n<=v1.length:=by simp at aa;omega
      rw[List.drop_append_of_le_length (by omega),List.take_append_of_le_length (by simp;omega)]
     simp only[hL];rw[hp,gF an.2.2 (dJ aa)];exact⟨_,cN p,h⟩
    split at h
    case h_2=>exact h.elim
    rename_i hl;have p:=(hr.drop o).take n;have aa:((v2.drop o).take n).length=n:=by rw[p.len];exact bJ hl
    simp only[hL]
    by_cases bj:n=0
    ·subst bj;rw[gF an.2.2 (dJ (by simp))];simp only[List.take_zero] at h p ⊢;exact⟨_,cN p,h⟩
    have hn:o+n<=v2.length:=by simp at aa;omega
    have hp:=Dr (v1:=v1) (v3:=v3) aa hn;rw[<-be.len,hp,gF an.2.2 (dJ aa)];exact⟨_,cN p,h⟩
   rename_i t cs hk;obtain⟨g,ty,vs,hL,hr,an⟩:=lq ht.tl hk;split at h
   case h_2=>exact h.elim
   rename_i hl;have p:=(hr.drop off).take n;simp only[hL];rw[gF an.2.2 (dJ (by rw[p.len];exact bJ hl))];exact⟨_,cN p,h⟩
  ·rename_i es off w;split at h
   case h_2=>exact h.elim
   rename_i hl;obtain⟨b,o,j,vs,d,hp,ho,hr⟩:=qh he w;have p:aG F L ((es.drop off).take n) ((vs.drop off).take n):=((hr.drop off).take n).lift;rcases d with⟨d,rfl⟩ | d
   ·rw[d];exact⟨_,by rw[p.len];exact bJ hl,.inl (kN (es:=es) hp),_,cN p,h⟩
   ·rw[d];exact⟨_,by rw[p.len];exact bJ hl,.inl (kN (es:=es) hp),_,cN p,h⟩
  ·exact h.elim
 case gload g =>
  split at h
  case h_2=>exact h.elim
  rename_i k hg;obtain⟨v,t,fr,h1,h2⟩:=I9 ht.glob hg;exact⟨v,t,fr,h1,.opq k,⟨_,rfl,by simp only[Rel];exact h2⟩,h⟩
 case loadF agg n x =>
  split at h
  ·rename_i es off w;split at h
   case h_2=>exact h.elim
   rename_i hl;obtain⟨b,o,j,vs,d,hp,ho,hr⟩:=qh he w;have p:aG F L ((es.drop off).take n) ((vs.drop off).take n):=((hr.drop off).take n).lift;rcases d with⟨d,rfl⟩ | d
   ·rw[d];exact⟨_,by rw[p.len];exact bJ hl,.inl (kN (es:=es) hp),_,cN p,h⟩
   ·rw[d];exact⟨_,by rw[p.len];exact bJ hl,.inl (kN (es:=es) hp),_,cN p,h⟩
  ·exact h.elim
 case loadK key agg n x =>
  split at h
  ·rename_i k off w;obtain⟨d,_⟩:=fG he w;rw[d];split at h
   case h_2=>exact h.elim
   rename_i hb;simp only[hb];split at h
   case h_2=>exact h.elim
   rename_i t cs hk;obtain⟨g,ty,vs,hL,hr,an⟩:=lq ht.tl hk;split at h
   case h_2=>exact h.elim
   rename_i hl;have p:=(hr.drop off).take n;simp only[hL];rw[gF an.2.2 (dJ (by rw[p.len];exact bJ hl))];exact⟨_,cN p,h⟩
  ·exact h.elim
 case b2sD x =>
  split at h
  ·rename_i els w;obtain⟨bs,rfl,h⟩:=h;obtain⟨a,c,sz,d,e2,e3,e4,e5⟩:=kP he w;rw[d];have aa:(ak bs).length=bs.length:=by simp[ak]
   refine⟨bs.map fun b=>Value.int .u8 b.toNat,by simp[aa],?_,bs,rfl,_,uL ?_,h⟩
   ·rcases wo e5 e4 with h1 | h1
    ·exact .inl h1
    ·exact .inr (by rw[aa];exact h1)
   ·rw[aa] at e2;show bs.toArray.size<=maxLen;simp;exact(by simpa[ak] using e3)
  ·exact h.elim
 case b2sR x =>
  split at h
  case h_2=>exact h.elim
  rename_i k w;split at h
  case h_2=>exact h.elim
  rename_i t sz els hk;split at h
  case h_2=>exact h.elim
  rename_i bx;have:=v8 bx;subst this;obtain⟨bs,rfl,h⟩:=h;obtain⟨a,c,t',az,n,cc,d,e2⟩:=tO he w;obtain⟨v,xs,e3,⟨hm,a',c',q6,q7⟩,hr⟩:=lu ht.tl hk;have aa:(ak bs).length=bs.length:=by simp[ak]
  rw[e2] at e3;injection e3 with e3
  injection e3 with q1 q2 q3 q4 q5
  subst q2 q3 q4 q5;have w:=AR hr;subst w;rw[<-q1] at q6;injection q6 with q6 q8
  subst q6;rw[d];refine⟨k,_,c,bs,e2,aa.symm,q7,_,uL ?_,h⟩;show bs.toArray.size<=maxLen;simp;omega
 case mkif t x =>
  split at h
  ·rename_i k n w;obtain⟨d,e2⟩:=fp he w;rw[d];exact⟨.ifc t (.int k n),⟨_,rfl,by simp only[Rel];exact⟨_,rfl,rfl,e2⟩⟩,h⟩
  ·rename_i b w;rw[jc he w];exact⟨.ifc t (.bool b),⟨_,rfl,by simp only[Rel];exact⟨_,rfl,rfl⟩⟩,h⟩
  ·rename_i s w;obtain⟨d,e2⟩:=kK he w;rw[d];exact⟨.ifc t (.str s),⟨_,rfl,by simp only[Rel];exact⟨_,rfl,rfl,e2⟩⟩,h⟩
  ·rename_i es off w;obtain⟨b,o,j,vs,d,hp,ho,hr⟩:=qh he w;rcases d with⟨d,rfl⟩ | d
   ·rw[d];exact⟨.ifc t (.pt es off),⟨_,rfl,by simp only[Rel];exact⟨_,rfl,b,o,vs,rfl,hp,ho,hr⟩⟩,h⟩
   ·rw[d];exact⟨.ifc t (.pt es off),⟨_,rfl,by simp only[Rel];exact⟨_,rfl,b,o+j,vs,by rw[cA],hp,ho,hr⟩⟩,h⟩
  ·rename_i k off w;obtain⟨d,g,t',cs,e2⟩:=fG he w;rw[d];simp only[e2];exact⟨.ifo none t k off,⟨_,rfl,by simp only[Rel];exact⟨g,t',cs,e2,rfl⟩⟩,h⟩
  ·rename_i k off w;obtain⟨g,t',cs,d,e2⟩:=nO he w;rcases e2 with e2 | ⟨b,o,j,e2,e3⟩
   ·rw[e2];exact⟨.ifo none t k off,⟨_,rfl,by simp only[Rel];exact⟨g,t',cs,d,rfl⟩⟩,h⟩
   ·rw[e2];exact⟨.ifo none t k off,⟨_,rfl,by simp only[Rel];exact⟨g,t',cs,d,by rw[cA,e3];rfl⟩⟩,h⟩
  ·rename_i cs w;split at h
   case h_2=>exact h.elim
   rename_i hp;rw[fk] at h;obtain⟨vs,d,e2⟩:=xk he w;rw[d];exact⟨.ifc t (.agg cs),⟨_,rfl,by simp only[Rel];exact⟨_,rfl,vs,rfl,eZ hp e2⟩⟩,h⟩
  ·exact h.elim
 case mkmv nm x =>
  split at h
  ·rename_i t c w;obtain⟨u,d,hr⟩:=BX he w;rw[d];exact⟨.mval nm (.ifc t c),⟨_,rfl,by simp only[Rel];exact⟨_,rfl,_,rfl,hr⟩⟩,h⟩
  ·rename_i t k off w;obtain⟨g,t',cs,hg,d⟩:=qg he w;rw[d];exact⟨.ifo (some nm) t k off,⟨_,rfl,by simp only[Rel];exact⟨g,t',cs,hg,rfl⟩⟩,h⟩
  ·exact h.elim
 case nilck x =>
  split at h
  ·rename_i k off w;obtain⟨d,e2⟩:=fG he w;rw[d];exact⟨.own k off,⟨rfl,e2⟩,h⟩
  ·rename_i es off w;obtain⟨b,o,j,vs,d,hp,ho,hr⟩:=qh he w;rcases d with⟨d,rfl⟩ | d
   ·rw[d];exact⟨.pt es off,⟨b,o,0,vs,.inl ⟨rfl,rfl⟩,hp,ho,hr⟩,h⟩
   ·rw[d];exact⟨by simp,.pt es off,⟨b,o,j,vs,.inr rfl,hp,ho,hr⟩,h⟩
  ·rename_i k off w;obtain⟨g,t,cs,d,e2⟩:=nO he w;rcases e2 with e2 | ⟨b,o,j,e2,e3⟩
   ·rw[e2];exact⟨.ownv k off,⟨_,.inl rfl,by simp only[Rel];exact⟨g,t,cs,d,rfl⟩⟩,h⟩
   ·rw[e2];exact⟨by simp,.ownv k off,⟨_,.inr ⟨b,o,j,rfl,rfl⟩,by simp only[Rel];exact⟨g,t,cs,d,e3.symm⟩⟩,h⟩
  ·rename_i f fi ca w;obtain⟨cz,da,d,h1,h2⟩:=tP he w;rw[d];exact⟨.fn f fi ca,⟨_,rfl,by simp only[Rel];exact⟨cz,da,rfl,h1,h2⟩⟩,h⟩
  ·rename_i nm c w;split at h
   case h_2=>exact h.elim
   rename_i t c;obtain⟨u,d,hr⟩:=yG he w;have dC:=hr;simp only[Rel] at hr;obtain⟨u',rfl,hu⟩:=hr;rw[d];exact⟨h.1,.mval nm (.ifc t c),⟨_,rfl,by simp only[Rel];exact⟨_,rfl,_,rfl,hu⟩⟩,h.2⟩
  ·rename_i nm t k off w;obtain⟨g,t',cs,hg,d⟩:=qg he w;rw[d];exact⟨h.1,.ifo (some nm) t k off,⟨_,rfl,by simp only[Rel];exact⟨g,t',cs,hg,rfl⟩⟩,h.2⟩
  ·exact h.elim
 case bin op x y =>
  split at h
  ·rename_i k a k' b w hy;obtain⟨d,w1⟩:=fp he w;obtain⟨e2,w2⟩:=fp he hy;rw[d,e2];split at h
   ·rename_i cp;simp only[cp];exact JZ w1 h fun v hv hV=>⟨_,yF hv,hV⟩
   ·rename_i cp;simp only[cp];split at h
    case h_2=>exact h.elim
    rename_i hk;simp only[hk];exact HT w1 h fun v hv hV=>⟨_,yF hv,hV⟩
  ·rename_i a b w hy;rw[(kK he w).1,(kK he hy).1];exact HU h fun v hv hV=>⟨_,yF hv,hV⟩
  ·exact h.elim
 case eqB neg x y =>
  split at h
  case h_2=>exact h.elim
  rename_i a b w hy;rw[jc he w,jc he hy];exact⟨_,cW,h⟩
 case eqP neg x y =>
  have hy:EW y=true->ev ρ y=.v (.pointer none):=by
   unfold EW;split
   ·intro _;rfl
   ·intro e;cases e
  split at h
  ·rename_i k off h1 w;rw[(fG he w).1,hy h1];exact⟨_,cW,h⟩
  ·rename_i k off h1 w;obtain⟨g,t,cs,d,e2⟩:=nO he w;rcases e2 with e2 | ⟨b,o,j,e2,_⟩
   ·rw[e2,hy h1];exact⟨_,cW,h⟩
   ·rw[e2,hy h1];exact⟨_,cW,h⟩
  ·rename_i es off h1 w;obtain⟨b,q,j,vs,d,hp,ho,hr⟩:=qh he w;rcases d with⟨d,rfl⟩ | d
   ·rw[d,hy h1];exact⟨_,cW,h⟩
   ·rw[d,hy h1];exact⟨_,cW,h⟩
  ·rename_i h1 w;rw[J0 he w,hy h1];exact⟨_,cW,h⟩
  ·exact h.elim
 case eqS neg x y =>
  have hy:isNil y=true->ev ρ y=.v (.slice none 0 0):=by
   unfold isNil;split
   ·intro _;rfl
   ·intro e;cases e
  split at h
  ·rename_i els h1 w;obtain⟨a,c,sz,d,e2,e3,e4,e5⟩:=RG he w;rw[d,hy h1];refine⟨_,cW,h _ fun bm=>?_⟩;cases a with
   | none=>exact p7 (e4 rfl).1 bm
   | some a=>rfl
  ·rename_i els h1 w;obtain⟨a,sz,d,_⟩:=B6 he w;rw[d,hy h1];exact⟨_,cW,h⟩
  ·rename_i h1 w;rw[pG he w,hy h1];exact⟨_,cW,h⟩
  ·exact h.elim
 case eqF neg x y =>
  have hy:EX y=true->ev ρ y=.v .nilFunc:=by
   unfold EX;split
   ·intro _;rfl
   ·intro e;cases e
  split at h
  ·rename_i h1 w;rw[J1 he w,hy h1];exact⟨_,cW,h⟩
  ·rename_i f fi ca h1 w;obtain⟨cz,da,d,_,_⟩:=tP he w;rw[d,hy h1];exact⟨_,cW,h⟩
  ·exact h.elim
 case eqN neg x =>
  split at h
  ·rename_i t c w;obtain⟨u,d,_⟩:=BX he w;rw[d];exact⟨_,cW,h⟩
  ·rename_i t k off w;obtain⟨g,t',cs,hg,d⟩:=qg he w;rw[d];exact⟨_,cW,h⟩
  ·rename_i k w;split at h
   case h_2=>exact h.elim
   rename_i b hb;obtain⟨v,d,h1⟩:=BZ he w;rw[d];obtain⟨q1,q2⟩:=Jb h1 hb;cases b with
   | true=>rw[q1 rfl];exact⟨_,cW,h⟩
   | false=>obtain⟨t,u,rfl⟩:=q2 rfl;exact⟨_,cW,h⟩
  ·exact h.elim
 case tas t z x =>
  have hz:Rel F L (cv z).cel z:=mh (RF z);split at h
  ·rename_i t' c w;obtain⟨u,d,hr⟩:=BX he w;rw[d];simp only[FZ] at h;cases hb:Nat.beq t' t with
   | true =>
    rw[hb] at h;simp only[hb];exact⟨.tup [c,.bool true],⟨_,rfl,by simp only[Rel];exact⟨[u,.bool true],rfl,by simp only[aG,Rel];exact⟨_,_,rfl,hr.lift,_,_,rfl,rfl,rfl⟩⟩⟩,h⟩
   | false =>
    rw[hb] at h;simp only[hb];exact⟨.tup [(cv z).cel,.bool false],⟨_,rfl,by simp only[Rel];exact⟨[z,.bool false],rfl,by simp only[aG,Rel];exact⟨_,_,rfl,hz,_,_,rfl,rfl,rfl⟩⟩⟩,h⟩
  ·rename_i t' k off w;obtain⟨g,t0,cs,hg,d⟩:=qg he w;rw[d];simp only[FZ] at h;cases hb:Nat.beq t' t with
   | true =>
    rw[hb] at h;simp only[Dn,hb];exact⟨.tup [.own k off,.bool true],⟨_,rfl,by simp only[Rel];exact⟨[.pointer (some ⟨g,off,none⟩),.bool true],rfl,by simp only[aG,Rel];exact⟨_,_,rfl,⟨g,t0,cs,hg,rfl⟩,_,_,rfl,rfl,rfl⟩⟩⟩,h⟩
   | false =>
    rw[hb] at h;simp only[Dn,hb];exact⟨.tup [(cv z).cel,.bool false],⟨_,rfl,by simp only[Rel];exact⟨[z,.bool false],rfl,by simp only[aG,Rel];exact⟨_,_,rfl,hz,_,_,rfl,rfl,rfl⟩⟩⟩,h⟩
  ·exact h.elim
 case eqA neg ks x y =>
  split at h
  case h_2=>exact h.elim
  rename_i cs ds w hy;split at h
  case h_2=>exact h.elim
  rename_i b hb;obtain⟨vs,d,h1⟩:=xk he w;obtain⟨us,e2,h2⟩:=xk he hy;simp only[d,e2];rw[Nu hb h1 h2];exact⟨_,cW,h⟩
 case un op x =>
  split at h
  ·rename_i b w;rw[jc he w];exact⟨_,cW,h⟩
  ·rename_i k n w;rw[(fp he w).1];exact⟨⟨_,je (wf_wrap _ _),h.out⟩⟩
  ·rename_i k n w;rw[(fp he w).1];exact⟨_,je (wf_wrap _ _),h⟩
  ·exact h.elim
 case conv k x =>
  split at h
  case h_2=>exact h.elim
  rename_i k' n w;rw[(fp he w).1];exact⟨⟨_,je (wf_wrap _ _),h.out⟩⟩
 case b2s x =>
  split at h
  ·rename_i els w;obtain⟨bs,rfl,h⟩:=h;obtain⟨a,c,sz,d,e2,e3,e4,e5⟩:=kP he w;rw[d];have aa:(ak bs).length=bs.length:=by simp[ak]
   refine⟨bs.map fun b=>Value.int .u8 b.toNat,by simp[aa],?_,bs,rfl,_,uL ?_,h⟩
   ·rcases wo e5 e4 with h1 | h1
    ·exact .inl h1
    ·exact .inr (.inr (.inl (by rw[aa];exact h1)))
   ·rw[aa] at e2;show bs.toArray.size<=maxLen;simp;exact(by simpa[ak] using e3)
  ·exact h.elim
 case mkfn f fi ca=>exact⟨.fn f _ _,⟨_,rfl,by simp only[Rel];exact⟨_,_,rfl,dD he fi,dD he ca⟩⟩,h⟩
 case slc sz x lo hi =>
  split at h
  case h_2=>exact h.elim
  rename_i els w;split at h
  case h_2=>exact h.elim
  rename_i l r hl hh;obtain⟨h1,h2,h3,h4,h5⟩:=h;obtain⟨a,c,az,d,e2,e3,e4,e5⟩:=kP he w;rw[d];simp only[xq he hl,xq he hh];refine⟨h1,h2,by omega,_,?_,h5⟩;have aa:((els.drop l.toNat).take (r.toNat-l.toNat)).length=r.toNat-l.toNat:=by simp;omega
  have hs:els≠[]->az=sz:=by
   intro bm;obtain⟨es,db⟩:=List.exists_mem_of_ne_nil _ bm;obtain⟨i,hi⟩:=abf.1 db;obtain⟨vs,k1,_,_,k4⟩:=nI.1 e5 i es hi;rw[<-k1,k4.len,h4 es db]
  have key:=J3 (l:=l.toNat) (h:=r.toNat) e5 e4 (by omega) (by omega) e2;unfold gK;have:=Ga (F:=F) (L:=L) (els:=(els.drop l.toNat).take (r.toNat-l.toNat)) (a:=if c=l.toNat then a else a.map (·.add (l.toNat*sz))) (c:=c-l.toNat) (sz:=sz) (by rw[aa];omega) (by rw[aa];omega) ?_ ?_
  ·rw[aa] at this;exact this
  ·intro hn;have ha:a=none:=by
    split at hn
    ·exact hn
    ·cases a with
     | none=>rfl
     | some a=>simp at hn
   obtain⟨q1,q2⟩:=e4 ha;subst q1;simp;omega
  ·by_cases bm:els=[]
   ·subst bm;simp only[List.drop_nil,List.take_nil,gS]
   ·rw[hs bm] at key;exact key
 case slcS x lo hi =>
  split at h
  case h_2=>exact h.elim
  rename_i s w;split at h
  case h_2=>exact h.elim
  rename_i l r hl hh;obtain⟨h1,h2,h3,h5⟩:=h;rw[(kK he w).1];simp only[xq he hl,xq he hh];refine⟨h1,h2,h3,_,uL ?_,h5⟩;have:=(kK he w).2;rw[ByteArray.size_extract];omega
 case fieldA off x =>
  split at h
  ·rename_i k o w;obtain⟨d,e2⟩:=fG he w;rw[d];exact⟨.own k (o+off),⟨rfl,e2⟩,h⟩
  ·rename_i es o w;obtain⟨b,q,j,vs,d,hp,ho,hr⟩:=qh he w;have cx:∀j',q+j'=q+j+off->Ni F b (q+j') (o+off) vs:=by
    intro j' hj;obtain⟨cY,cw,t,fr,k1,k2,k3⟩:=hp;exact⟨cY,cw,t,fr,k1,by omega,k3⟩
   rcases d with⟨d,rfl⟩ | d
   ·rw[d];exact⟨.pt es (o+off),⟨b,q,off,vs,.inr rfl,cx _ (by omega),ho,hr⟩,h⟩
   ·rw[d];exact⟨.pt es (o+off),⟨b,q,j+off,vs,.inr rfl,cx _ (by omega),ho,hr⟩,h⟩
  ·rename_i k j o w;obtain⟨ad,t,sz,n,c,xs,d,e2⟩:=uI he w;rw[d];exact⟨.elr k j (o+off),⟨ad,t,sz,n,c,xs,by rw[Nat.add_assoc],e2⟩,h⟩
  ·rename_i k o w;obtain⟨g,t,cs,d,e2⟩:=nO he w;rcases e2 with e2 | ⟨b,q,j,e2,e3⟩
   ·rw[e2];exact⟨.ownv k (o+off),⟨_,.inr ⟨g,o,off,rfl,rfl⟩,by simp only[Rel];exact⟨g,t,cs,d,rfl⟩⟩,h⟩
   ·rw[e2];injection e3 with e3
    injection e3 with e3
    injection e3 with e4 e5
    subst e4;exact⟨.ownv k (o+off),⟨_,.inr ⟨g,q,j+off,rfl,rfl⟩,by simp only[Rel];exact⟨g,t,cs,d,by rw[e5,Nat.add_assoc]⟩⟩,h⟩
  ·exact h.elim
 case fieldV agg off n x =>
  split at h
  case h_2=>exact h.elim
  rename_i cs w;split at h
  case h_2=>exact h.elim
  rename_i hl;obtain⟨vs,d,hr⟩:=xk he w;have p:=(hr.drop off).take n;rw[d];simp only[];rw[dJ (by rw[p.len];exact bJ hl)];exact⟨_,cN p,h⟩
 case idxA sz x i =>
  split at h
  ·rename_i els k i w hi;obtain⟨es,h1,h2,h3,h4⟩:=h;obtain⟨a,c,az,d,e2,e3,e4,e5⟩:=kP he w;rw[d,(fp he hi).1];have bu:i.toNat<els.length:=(xD.1 h2).1;obtain⟨vs,k1,⟨ad,cw,t,fr,e,hb,dp,hv⟩,k3,k4⟩:=nI.1 e5 _ _ h2;have hs:az=sz:=by rw[<-k1,k4.len,bJ h3]
   subst hs;subst e;refine⟨by simp,h1,by omega,_,J5 hb dp (fun i v hi=>?_) k3 k4,h4⟩;have:=hv i v hi;simpa using this
  ·rename_i k i' i w hi;split at h
   case h_2=>exact h.elim
   rename_i t az els hk;split at h
   case h_2=>exact h.elim
   rename_i bx;have:=v8 bx;subst this;obtain⟨h1,h2,h3⟩:=h;obtain⟨a,c,t',az,n,cc,d,e2⟩:=tO he (B0 w);obtain⟨v,xs,e3,⟨_,a',c',q6,q7⟩,hr⟩:=lu ht.tl hk;rw[e2] at e3;injection e3 with e3
   injection e3 with q1 q2 q3 q4 q5
   subst q2 q3 q4;rw[d,(fp he hi).1];cases a with
   | none =>
    rw[<-q1] at q6;injection q6 with q6
    have:=q7 q6.symm;omega
   | some ad=>exact⟨by simp,h1,h2,.elr k i.toNat 0,⟨ad,_,_,_,c,_,by simp,e2⟩,h3⟩
  ·rename_i k bv k' i w hi;split at h
   case h_2=>exact h.elim
   rename_i bx;obtain rfl:=v8 bx;obtain⟨h1,h2,h3⟩:=h;obtain⟨g,t,cs,ad,d,e2,e3,e4⟩:=F8 he (F9 w);rw[e2,(fp he hi).1];exact⟨by simp,h1,h2,.slp k bv i.toNat,⟨g,t,cs,ad,d,by rw[Nat.mul_one],e4⟩,h3⟩
  ·exact h.elim
 case idxS x i =>
  split at h
  case h_2=>exact h.elim
  rename_i s k i w hi;obtain⟨h1,h2,h3⟩:=h;rw[(kK he w).1,(fp he hi).1];refine⟨h1,h2,_,je ?_,h3⟩;have:=(s.data.toList.getD i.toNat 0).toNat_lt;generalize(s.data.toList.getD i.toNat 0).toNat=m at *;simp[Lit.wf,IntKind.min,IntKind.max,IntKind.bits,IntKind.signed];omega
 case extr x i =>
  split at h
  case h_2=>exact h.elim
  rename_i cs w;split at h
  case h_2=>exact h.elim
  rename_i v hv;obtain⟨vs,d,hr⟩:=Nn he w;rw[d];have bu:i<vs.length:=by rw[hr.len];exact(xD.1 hv).1
  simp only[w8 bu];exact⟨_,kM (hr.at hv (w8 bu)),h⟩
 case len x =>
  have wl:∀n:Nat,n<=maxLen->(Lit.int .i64 (n:Int)).wf=true:=by
   intro n hn;simp only[maxLen] at hn;simp[Lit.wf,IntKind.min,IntKind.max,IntKind.bits,IntKind.signed];omega
  split at h
  ·rename_i els w;obtain⟨a,c,az,d,e2,e3,e4,e5⟩:=kP he w;rw[d];exact⟨_,je (wl _ e3),h⟩
  ·rename_i k w;split at h
   case h_2=>exact h.elim
   rename_i t az els hk;obtain⟨a,c,t',az,n,cc,d,e2⟩:=tO he (B0 w);obtain⟨v,xs,e3,⟨hm,_⟩,hr⟩:=lu ht.tl hk;rw[e2] at e3;injection e3 with e3
   injection e3 with q1 q2 q3 q4 q5
   subst q4;rw[d];exact⟨_,je (wl _ hm),h⟩
  ·rename_i k w;obtain⟨n,h1,h2,h3⟩:=h;obtain⟨v,d,e2⟩:=BZ he (Ns w);obtain⟨a,c,rfl⟩:=MA e2 h1;rw[d];exact⟨_,je (wl _ (by simpa[maxLen] using h2)),h3⟩
  ·rename_i k bv w;obtain⟨g,t,cs,ad,d,e2,e3,e4⟩:=F8 he (F9 w);rw[e2];exact⟨_,je (wl _ e3),h⟩
  ·exact h.elim
 case lenS x =>
  split at h
  case h_2=>exact h.elim
  rename_i s w;obtain⟨d,e2⟩:=kK he w;rw[d];refine⟨_,je ?_,h⟩;simp only[maxLen] at e2;simp[Lit.wf,IntKind.min,IntKind.max,IntKind.bits,IntKind.signed];omega
 case mlook str ok z x i =>
  split at h
  case h_2=>exact h.elim
  rename_i k w;split at h
  case h_2=>exact h.elim
  rename_i es hk;obtain⟨g,cs,d,e2⟩:=Ca he w;obtain⟨g',vs,e3,hE⟩:=E5 ht.tl hk;rw[e2] at e3;injection e3 with e3
  injection e3 with q1 q2 q3
  subst q1 q3;rw[d];refine⟨k,cs,e2,hE.isMap,⟨?_⟩⟩;rcases h.out with⟨c,h1,h2⟩ | ⟨h1,h2⟩
  ·obtain⟨j,v,h3,h4⟩:=yH (Gb he) 0 hE h1;refine .inl ⟨j,v,h3,?_⟩;have h5:Rel F L c v:=h4.lift;cases ok with
   | true=>exact⟨_,AU h5,h2⟩
   | false=>exact⟨_,kM h5,h2⟩
  ·refine .inr ⟨yH (Gb he) 0 hE h1,?_⟩;have h5:Rel F L (cv z) z:=RH z;cases ok with
   | true=>exact⟨_,AU h5,h2⟩
   | false=>exact⟨_,RF z,h2⟩
 case mlen x =>
  split at h
  case h_2=>exact h.elim
  rename_i k w;split at h
  case h_2=>exact h.elim
  rename_i es hk;obtain⟨g,cs,d,e2⟩:=Ca he w;obtain⟨g',vs,e3,hE⟩:=E5 ht.tl hk;rw[e2] at e3;injection e3 with e3
  injection e3 with q1 q2 q3
  subst q1 q3;rw[d];refine⟨k,cs,e2,hE.isMap,_,je ?_,?_⟩
  ·rw[hE.len];have:=h.1;simp only[maxLen] at this;simp[Lit.wf,IntKind.min,IntKind.max,IntKind.bits,IntKind.signed];omega
  ·rw[hE.len];exact h.2
 case mm mx args =>
  split at h
  case h_2=>exact h.elim
  rename_i k a l hl;split at h
  case h_2=>exact h.elim
  rename_i m hm
  match args,hl with
  | x::args,hl =>
   simp only[aaU,List.cons.injEq] at hl;obtain⟨w,rfl⟩:=hl;simp only[aaU,(fp he w).1,J2 he mx args hm];exact⟨_,je h.1,h.2⟩
end
theorem TL.aac (L:TL) (k:Nat) (o:TO) (j:Nat):(L.set k o).get j=if j=k then some o else L.get j:=by
 induction L with
 | nil =>
  simp only[TL.set,TL.get];cases h:Nat.beq k j with
  | true=>have:=v8 h;simp[this]
  | false=>have:=gh h;simp;omega
 | cons p l c =>
  obtain⟨i,q⟩:=p;simp only[TL.set];cases h:Nat.beq i k with
  | true =>
   have e:=v8 h;subst e;simp only[TL.get];cases a:Nat.beq i j with
   | true=>have:=v8 a;simp[this]
   | false=>have:=gh a;simp;omega
  | false =>
   have b:=gh h;simp only[];cases d:Nat.ble i k with
   | true =>
    simp only[TL.get];cases a:Nat.beq i j with
    | true=>have:=v8 a;simp;omega
    | false=>simpa using c
   | false =>
    simp only[TL.get];cases a:Nat.beq k j with
    | true=>have:=v8 a;simp[this]
    | false =>
     have:=gh a;simp only[];rw[vv (by omega)]
theorem TL.aai (L:TL) (k j:Nat):(L.del k).get j=if j=k then none else L.get j:=by
 induction L with
 | nil=>simp[TL.del,TL.get]
 | cons p l c =>
  obtain⟨i,q⟩:=p;simp only[TL.del];cases h:Nat.beq i k with
  | true =>
   have e:=v8 h;subst e;simp only[TL.get,c]
   by_cases b:j=i
   ·simp[b]
   ·have:Nat.beq i j=false:=by cases a:Nat.beq i j with | true=>exact p7 (v8 a).symm b | false=>rfl
    simp[b,this]
  | false =>
   have d:=gh h;simp only[TL.get];cases a:Nat.beq i j with
   | true=>have:=v8 a;simp;omega
   | false=>simpa using c
theorem uM:∀(l:List TO) (k j:Nat),TL.get (jF k l) j=if k<=j then l[j-k]? else none
 | [],k,j=>by simp[jF,TL.get]
 | o::l,k,j=>by
  simp only[jF,TL.get];cases h:Nat.beq k j with
  | true=>have:=v8 h;subst this;simp
  | false =>
   have b:=gh h;simp only[uM l (k+1) j]
   by_cases a:k<=j
   ·rw[o6 (by omega),o6 a,show j-k=(j-(k+1))+1 by omega,aby]
   ·rw[vv (by omega),vv a]
theorem cI (l:List TO) (j:Nat):TL.get (jG l) j=if 1000<=j then l[j-1000]? else none:=uM l 1000 j
theorem Dt:∀{L:TL}{ks:List Nat}{l:List TO},L.sub ks=some l->l.length=ks.length/\∀(i:Nat) (k:Nat),ks[i]?=some k->L.get k=l[i]?
 | L,[],l,h=>by simp only[TL.sub,w7] at h;subst h;simp
 | L,k::ks,l,h=>by
  simp only[TL.sub] at h;split at h
  case h_2=>cases h
  rename_i o f c b;injection h with h
  subst h;obtain⟨a,d⟩:=Dt b;refine⟨by simp[a],fun i e hi=>?_⟩;cases i with
  | zero=>simp at hi;subst hi;simpa using c
  | succ i=>simp at hi;simpa using d i e hi
theorem pH:∀(ks:List Nat) (L:TL) (j:Nat),(L.aaf ks).get j=if j∈ks then none else L.get j
 | [],L,j=>by simp[TL.aaf]
 | k::ks,L,j=>by
  simp only[TL.aaf,pH ks,TL.aai,aaQ]
  by_cases b:j=k<;>by_cases a:j∈ks<;>simp[b,a]
theorem ni:∀(ko:List Nat) (l:List TO) (L:TL) (j:Nat),ko.Nodup->ko.length=l.length ->
  ((L.puts ko l).get j=L.get j/\j∉ko)\/∃i,ko[i]?=some j/\(L.puts ko l).get j=l[i]?/\i<l.length
 | [],l,L,j,_,h=>by
  refine .inl ⟨?_,by simp⟩;cases l<;>rfl
 | k::ko,[],L,j,_,h=>by simp at h
 | k::ko,o::l,L,j,d,h=>by
  simp only[aaW,Nat.add_right_cancel_iff] at h;rw[List.nodup_cons] at d;simp only[TL.puts];rcases ni ko l (L.set k o) j d.2 h with⟨a,c⟩ | ⟨i,a,c,e⟩
  ·rw[TL.aac] at a
   by_cases b:j=k
   ·subst b;rw[o6 rfl] at a;exact .inr ⟨0,by simp,by simpa using a,by simp⟩
   ·rw[vv b] at a;exact .inl ⟨a,by simp[b,c]⟩
  ·exact .inr ⟨i+1,by simpa using a,by simpa using c,by simp;omega⟩
theorem rz (g:C->C):∀(L:TL) (k:Nat),(TL.aag g L).get k=(L.get k).map (TO.aag g)
 | [],k=>rfl
 | (j,o)::l,k=>by
  simp only[TL.aag,TL.get];cases h:Nat.beq j k with
  | true=>rfl
  | false=>exact rz g l k
section
variable {P:Program}{G:Nat->Option (Nat×TypeId)}{F:aF}{L:Loc}{ρ:Env}{M:TL}{τ:aY}
theorem Cb (d:Option Nat) (c:C) (τ:aY) (t:Nat):bL d c τ t=match d with | some k=>if t=k then c else τ t | none=>τ t:=by
 cases d with
 | none=>rfl
 | some k =>
  simp only[bL];cases h:Nat.beq t k with
  | true=>have:=v8 h;simp[this]
  | false=>have:=gh h;simp[this]
theorem Nv {F:aF}{L:Loc}{τ:aY}{ρ:Env}(h:∀j,aT F L (τ j) (ρ j)) {c:C}{sv:SV}(a:aT F L c sv) (d:Option Nat):∀j,aT F L (bL d c τ j) (put d sv ρ j):=by
 intro j;rw[Cb,put_eq];cases d with
 | none=>exact h j
 | some k =>
  simp only[];split
  ·exact a
  ·exact h j
theorem TS.put (a:TS G F L ρ M τ) {c:C}{sv:SV}(b:aT F L c sv) (d:Option Nat):TS G F L (put d sv ρ) M (bL d c τ):=⟨a.tl,Nv a.env b d,a.kp,a.glob⟩
theorem eX {F:aF}{L:Loc}{a:Option TO}{b:Option Own}(h:JV F L a b):(a=none/\b=none)\/∃o p,a=some o/\b=some p/\dG F L o p:=by
 cases a<;>cases b<;>simp only[JV] at h
 ·exact .inl ⟨rfl,rfl⟩
 ·exact .inr ⟨_,_,rfl,rfl,h⟩
theorem TS.new {F':aF}(f:F.le F') (b:TS G F L ρ M τ) {k:Nat}(l:L.get k=none) {o:Own}{to:TO}(n:dG F' (L.set k o) to o):TS G F' (L.set k o) ρ (M.set k to) τ:=by
 have a:Ext L (L.set k o):=by
  intro j p e;refine⟨p,?_,Own.aah p⟩;rw[Loc.aac,vv (by rintro rfl;rw[l] at e;cases e)];exact e
 refine⟨fun j=>?_,fun j=>(b.env j).ext f a,fun j g t e=>?_,b.glob.mono f⟩
 ·rw[TL.aac,Loc.aac];split
  ·exact n
  ·rcases eX (b.tl j) with⟨c,d⟩ | ⟨p,q,c,d,m⟩
   ·rw[c,d];trivial
   ·rw[c,d];exact m.ext f a
 ·obtain⟨cs,h⟩:=b.kp j g t e;exact⟨cs,by rw[Loc.aac,vv (by rintro rfl;rw[l] at h;cases h)];exact h⟩
theorem TS.mono {F':aF}(b:F.le F') (a:TS G F L ρ M τ):TS G F' L ρ M τ:=⟨a.tl.mono b,fun j=>(a.env j).mono b,a.kp,a.glob.mono b⟩
theorem TS.turn (c:TS G F L ρ M τ) {k:Nat}{o o':Own}(m:L.get k=some o) (r:Own.like o o') (b:∀g t cs,o=.box g t cs->∃cs',o'=.box g t cs') {to:TO}(u:∀L',Ext L L'->dG F L' to o') :
  TS G F (L.set k o') ρ (M.set k to) τ:=by
 have a:Ext L (L.set k o'):=by
  intro j p e;rw[Loc.aac];split
  ·rename_i f;subst f;rw[m] at e;injection e with e
   subst e;exact⟨o',rfl,r⟩
  ·exact⟨p,e,Own.aah p⟩
 refine⟨fun j=>?_,fun j=>(c.env j).ext (aF.le_refl F) a,fun j g t e=>?_,c.glob⟩
 ·rw[TL.aac,Loc.aac];split
  ·exact u _ a
  ·rcases eX (c.tl j) with⟨d,l⟩ | ⟨p,q,d,l,s⟩
   ·rw[d,l];trivial
   ·rw[d,l];exact s.ext (aF.le_refl F) a
 ·obtain⟨cs,h⟩:=c.kp j g t e;rw[Loc.aac];split
  ·rename_i f;subst f;rw[m] at h;injection h with h
   obtain⟨cs',n⟩:=b g t cs h;exact⟨cs',by rw[n]⟩
  ·exact⟨cs,h⟩
theorem lz {L':Loc}{k:Nat}(d:∀g t cs,L.get k≠some (.box g t cs)) (n:∀j,j≠k->∀o,L.get j=some o->∃o',L'.get j=some o'/\Own.like o o') {F':aF}(l:F.le F') (c:C) (v:Value) (r:c.leaf=true)
  (h:Rel F L c v):Rel F' L' (ic k c) v:=by
 cases c<;>simp only[C.leaf,aaZ] at r<;>simp only[ic]
 case rw j =>
  cases q:Nat.beq j k with
  | true=>simp only[Rel]
  | false=>exact bI l (fun p e=>by
    rcases e with⟨off,e⟩ | e | e | ⟨_,_,_,e⟩ | ⟨_,_,e⟩
    ·cases e
    ·injection e with e;subst e;exact n j (gh q)
    ·cases e
    ·cases e
    ·cases e) rfl h
 case own j off =>
  refine bI l (fun p e=>?_) rfl h;rcases e with⟨off,e⟩ | e | e | ⟨_,_,_,e⟩ | ⟨_,_,e⟩
  ·injection e with e e2
   subst e;simp only[Rel] at h;obtain⟨g,t,cs,f,_⟩:=h;exact n j (by rintro rfl;exact d _ _ _ f)
  ·cases e
  ·cases e
  ·cases e
  ·cases e
 case ifo m ti j off =>
  refine bI l (fun p e=>?_) rfl h;rcases e with⟨off,e⟩ | e | e | ⟨_,_,_,e⟩ | ⟨_,_,e⟩
  ·cases e
  ·cases e
  ·cases e
  ·injection e with _ _ e
   subst e;simp only[Rel] at h;obtain⟨g,t,cs,f,_⟩:=h;exact n j (by rintro rfl;exact d _ _ _ f)
  ·cases e
 case elr j a b =>
  cases q:Nat.beq j k with
  | true=>simp only[Rel]
  | false=>exact bI l (fun p e=>by
    rcases e with⟨off,e⟩ | e | e | ⟨_,_,_,e⟩ | ⟨_,_,e⟩<;>first | cases e;done | skip
    injection e with e;subst e;exact n j (gh q)) rfl h
 case mpr j =>
  refine bI l (fun p e=>?_) rfl h;rcases e with⟨off,e⟩ | e | e | ⟨_,_,_,e⟩ | ⟨_,_,e⟩
  ·cases e
  ·cases e
  ·injection e with e
   subst e;simp only[Rel] at h;obtain⟨g,cs,f,_⟩:=h;exact n j (by rintro rfl;exact d _ _ _ f)
  ·cases e
  ·cases e
 case slo j a =>
  refine r9 l ?_ h;simp only[Rel] at h;obtain⟨g,t,cs,s,f,_⟩:=h;exact n j (by rintro rfl;exact d _ _ _ f)
 case slp=>simp only[Rel]
 all_goals
  exact bI l (fun p e=>by rcases e with⟨off,e⟩ | e | e | ⟨_,_,_,e⟩ | ⟨_,_,e⟩<;>cases e) rfl h
theorem qi {L':Loc}{k:Nat}(d:∀g t cs,L.get k≠some (.box g t cs)) (p:∀j,j≠k->∀o,L.get j=some o->∃o',L'.get j=some o'/\Own.like o o') {F':aF}(n:F.le F') (c:C) (sv:SV) (s:c.leaf=true)
  (h:aT F L c sv):aT F' L' (ic k c) sv:=by
 cases c<;>simp only[C.leaf,aaZ] at s<;>simp only[ic]
 case rw j =>
  cases r:Nat.beq j k with
  | true=>trivial
  | false=>exact dA n (fun q e=>by
    rcases e with⟨off,e⟩ | ⟨off,e⟩ | e | ⟨a,b,e⟩ | e | ⟨_,_,_,e⟩<;>first | cases e;done | skip
    injection e with e;subst e;exact p j (gh r)) rfl h
 case elr j a b =>
  cases r:Nat.beq j k with
  | true=>trivial
  | false=>exact dA n (fun q e=>by
    rcases e with⟨off,e⟩ | ⟨off,e⟩ | e | ⟨a,b,e⟩ | e | ⟨_,_,_,e⟩<;>first | cases e;done | skip
    injection e with e;subst e;exact p j (gh r)) rfl h
 case own j off =>
  refine dA n (fun q e=>?_) rfl h;obtain⟨_,g,t,cs,l⟩:=h;rcases e with⟨off,e⟩ | ⟨off,e⟩ | e | ⟨a,b,e⟩ | e | ⟨_,_,_,e⟩<;>first | cases e;done | skip
  injection e with e
  subst e;exact p j (by rintro rfl;exact d _ _ _ l)
 case ifo m ti j off =>
  refine dA n (fun q e=>?_) rfl h;obtain⟨v,_,f⟩:=h;simp only[Rel] at f;obtain⟨g,t,cs,l,_⟩:=f;rcases e with⟨off,e⟩ | ⟨off,e⟩ | e | ⟨a,b,e⟩ | e | ⟨_,_,_,e⟩<;>first | cases e;done | skip
  injection e with _ _ e
  subst e;exact p j (by rintro rfl;exact d _ _ _ l)
 case ownv j off =>
  refine dA n (fun q e=>?_) rfl h;obtain⟨v,_,f⟩:=h;simp only[Rel] at f;obtain⟨g,t,cs,l,_⟩:=f;rcases e with⟨off,e⟩ | ⟨off,e⟩ | e | ⟨a,b,e⟩ | e | ⟨_,_,_,e⟩<;>first | cases e;done | skip
  injection e with e
  subst e;exact p j (by rintro rfl;exact d _ _ _ l)
 case mpr j =>
  refine dA n (fun q e=>?_) rfl h;obtain⟨v,_,f⟩:=h;simp only[Rel] at f;obtain⟨g,cs,l,_⟩:=f;rcases e with⟨off,e⟩ | ⟨off,e⟩ | e | ⟨a,b,e⟩ | e | ⟨_,_,_,e⟩<;>first | cases e;done | skip
  injection e with e
  subst e;exact p j (by rintro rfl;exact d _ _ _ l)
 case slo j a =>
  refine uG n ?_ h;obtain⟨v,_,f⟩:=h;simp only[Rel] at f;obtain⟨g,t,cs,u,l,_⟩:=f;exact p j (by rintro rfl;exact d _ _ _ l)
 case slp=>trivial
 all_goals
  exact dA n (fun q e=>by rcases e with⟨off,e⟩ | ⟨off,e⟩ | e | ⟨a,b,e⟩ | e | ⟨_,_,_,e⟩<;>cases e) rfl h
theorem dG.aax {L':Loc}{k:Nat}(a:∀g t cs,L.get k≠some (.box g t cs)) (f:∀j,j≠k->∀o,L.get j=some o->∃o',L'.get j=some o'/\Own.like o o') {F':aF}(b:F.le F'):∀{o:TO}{p:Own},dG F L o p->dG F' L' (o.aag (C.kill k)) p
 | .box t cs,.box g d vs,r=>⟨r.1,r.2.map fun c _ v h=>Rel.mp (lz a f b) 3 h⟩
 | .row t sz els,.row v d q n xs,r=>⟨r.1,r.2.1,r.2.2.1,r.2.2.2.1,r.2.2.2.2.mono b⟩
 | .box _ _,.row ..,r=>r.elim
 | .row ..,.box ..,r=>r.elim
 | .map _,.row ..,r=>r.elim
 | .map es,.box g d vs,r=>⟨r.1,r.2.mono b⟩
 | .win ..,.row ..,r=>r.elim
 | .win ..,.box ..,⟨u,v1,s,v3,e,m,l,w⟩=>⟨u,v1,s,v3,e,m.mono b,l.map fun c _ v h=>Rel.mp (lz a f b) 3 h,w.mono b⟩
theorem TS.aax (b:TS G F L ρ M τ) {k:Nat}{o':Own}(a:∀g t cs,L.get k≠some (.box g t cs)) {to:TO}(n:dG F (L.set k o') to o') :
  TS G F (L.set k o') ρ ((M.aag (C.kill k)).set k to) (fun j=>(τ j).kill k):=by
 have f:∀j,j≠k->∀o,L.get j=some o->∃p,(L.set k o').get j=some p/\Own.like o p:=fun j l o e=>⟨o,by rw[Loc.aac,vv l];exact e,Own.aah o⟩;refine⟨fun j=>?_,fun j=>aT.mp (lz a f (aF.le_refl F)) (qi a f (aF.le_refl F)) 3 (b.env j),fun j g t e=>?_,b.glob⟩
 ·rw[TL.aac,Loc.aac,rz];split
  ·exact n
  ·rcases eX (b.tl j) with⟨c,d⟩ | ⟨p,q,c,d,m⟩
   ·rw[c,d];trivial
   ·rw[c,d];exact m.aax a f (aF.le_refl F)
 ·obtain⟨cs,h⟩:=b.kp j g t e;exact⟨cs,by rw[Loc.aac,vv (by rintro rfl;exact a _ _ _ h)];exact h⟩
theorem jr {a:Option Addr}{sz b:Nat}{els:List (List C)}(h:gS F a b 0 els) (x:∀es∈els,es.length=sz):∃xs,xs.length=els.length*sz/\(cg F a 0 xs\/(els.length=0/\xs=[]))/\aP F sz els xs:=by
 cases m:els with
 | nil=>exact⟨[],by simp,.inr ⟨rfl,rfl⟩,by simp only[aP]⟩
 | cons o f =>
  rw[m] at h x;have h0:=nI.1 h 0 o (by simp);obtain⟨av,k1,⟨d,k,t,fr,ea,hb,r,_⟩,_,k4⟩:=h0;have q:b=sz:=by rw[<-k1,k4.len,x o (by simp)]
  subst q;subst ea;have key:∀(l:List (List C)) (i:Nat),gS F (some d) b i l->∃xs,aP F b l xs/\∀(j:Nat) v,xs[j]?=some v->k[d.off+i*b+j]?=some v/\pT fr (d.off+i*b+j):=by
   intro l
   induction l with
   | nil=>intro i _;exact⟨[],by simp only[aP],by simp⟩
   | cons es l ih =>
    intro i y;simp only[gS] at y;obtain⟨⟨vs,z,⟨am,w,t',ao,p,c,ab,hv⟩,q3,q4⟩,q5⟩:=y;injection p with p
    subst p;rw[hb] at c;injection c with c
    injection c with r1 r2 r3
    subst r1 r3;obtain⟨xs,n,s⟩:=ih (i+1) q5;refine⟨vs++xs,by simp only[aP];exact⟨vs,xs,rfl,z,q3,q4,n⟩,fun j v e=>?_⟩
    by_cases u:j<vs.length
    ·rw[aaY u] at e;exact hv j v e
    ·rw[aa4 (by omega)] at e;have:=s _ _ e;rw[show d.off+i*b+j=d.off+(i+1)*b+(j-vs.length) by rw[z,Nat.add_mul];omega];exact this
  obtain⟨xs,n,s⟩:=key (o::f) 0 h;exact⟨xs,jb n,.inl ⟨d,k,t,fr,rfl,hb,r,fun j v e=>by have:=s j v e;simpa using this⟩,n⟩
theorem aP.ones {sz:Nat}:∀{l:List (List C)}{xs:List Value},aP F sz l xs->∀u∈xs,u.oneCell'=true
 | [],xs,h=>by simp only[aP] at h;subst h;simp
 | es::l,xs,h=>by
  simp only[aP] at h;obtain⟨vs,b,rfl,f,c,e,d⟩:=h;intro u a;rcases xo.1 a with a | a
  ·exact gN e c u a
  ·exact aP.ones d u a
theorem mQ (bs:List UInt8):aP F 1 (ak bs) (bs.map fun b=>Value.int .u8 b.toNat):=by
 induction bs with
 | nil=>simp only[ak,abL,aP]
 | cons b bs a =>
  simp only[ak,aaU,aP];refine⟨[.int .u8 b.toNat],_,rfl,rfl,rfl,?_,a⟩;simp only[aG,Rel];refine⟨_,_,rfl,⟨rfl,?_⟩,rfl⟩;have:=b.toNat_lt;simp[Lit.wf,IntKind.min,IntKind.max,IntKind.bits,IntKind.signed];omega
theorem E6 {g:Nat}{bs:List UInt8}(h:cg F (some ⟨g,0,none⟩) 0 (bs.map fun b=>Value.int .u8 b.toNat)):gS F (some ⟨g,0,none⟩) 1 0 (ak bs):=(mQ bs).frz h
theorem aP.set {sz:Nat}:∀{l:List (List C)}{xs:List Value},aP F sz l xs->∀{j:Nat}{es ds:List C}{us:List Value}{off:Nat},l[j]?=some es->off+us.length<=sz->aG F [] ds us->dZ ds=true ->
  aP F sz (l.set j (fN es off ds)) (aR xs (j*sz+off) us)
 | [],xs,h,j,es,ds,us,off,e,_,_,_=>by simp at e
 | x::l,xs,h,j,es,ds,us,off,e,p,m,f=>by
  simp only[aP] at h;obtain⟨vs,d,rfl,k,b,o,n⟩:=h;cases j with
  | zero =>
   simp only[aa2,w7] at e;subst e;simp only[List.set_cons_zero,aP];refine⟨aR vs off us,d,?_,?_,?_,gT o m,n⟩
   ·simp only[aR,Nat.zero_mul,Nat.zero_add];rw[List.take_append_of_le_length (by omega),List.drop_append_of_le_length (by omega)];simp
   ·simp only[aR,aaR,aa9,abC];omega
   ·rw[jo] at b f ⊢;intro c a;simp only[fN,xo] at a;rcases a with(a | a) | a
    ·exact b c (List.mem_of_mem_take a)
    ·exact f c a
    ·exact b c (List.mem_of_mem_drop a)
  | succ j =>
   simp only[List.set_cons_succ,aP];have q:=aP.set n (j:=j) (by simpa using e) p m f;refine⟨vs,_,?_,k,b,o,q⟩;simp only[aR];rw[show(j+1)*sz+off=vs.length+(j*sz+off) by rw[k,Nat.add_mul];omega];rw[List.take_length_add_append,show vs.length+(j*sz+off)+us.length=vs.length+(j*sz+off+us.length) by omega,List.drop_length_add_append];simp[aaT]
end
section
variable {P:Program}{G:Nat->Option (Nat×TypeId)}{F:aF}{L:Loc}{ρ:Env}{M:TL}{τ:aY}
def Both (G:Nat->Option (Nat×TypeId)) (K:TK):dm:=fun F L ρ=>∃M τ,TS G F L ρ M τ/\K M τ
theorem ow {k:Nat}{a:Option Addr}{c n:Nat}{t sz:Nat}{xs:List Value}(h:L.get k=some (.row (.slice a n c) t sz n xs)):aT F L (.rw k) (.v (.slice a n c)) :=
 ⟨_,rfl,by simp only[Rel];exact⟨a,c,t,sz,n,xs,rfl,h⟩⟩
theorem RI {g:Nat}{F':aF}{t:TypeId}{cs:List C}{vs:List Value}(a:F' g=some (.cells vs.toArray t (0,0))) (c:dZ cs=true) (b:aG F' [] cs vs):aT F' L (.pt cs 0) (.v (.pointer (some ⟨g,0,none⟩))) :=
 ⟨g,0,0,vs,.inl ⟨rfl,rfl⟩,⟨0,_,t,(0,0),a,rfl,fun i v hi=>⟨by simpa using hi,ud _⟩⟩,c,b⟩
theorem jV (a:∀j,aT F L (τ j) (ρ j)) {sz:Nat}:∀{xs:List X},rj τ sz xs=true->ga L ρ sz xs=true/\aP F sz (vA τ xs) (cellsOf L ρ xs)/\(vA τ xs).length=xs.length
 | [],_=>⟨rfl,by simp only[vA,cellsOf,aP],rfl⟩
 | x::xs,h=>by
  simp only[rj] at h;split at h
  case h_2=>cases h
  rename_i m f e k;obtain⟨n,l,d⟩:=jV a h;have c:=eJ a m;have b:(aM (val L ρ x)).length=sz:=by rw[c.len];exact bJ f
  refine⟨by simp only[ga,dJ b];exact n,?_,by simp only[vA,aaW,d]⟩;simp only[vA,cellsOf,aP];exact⟨_,_,rfl,b,nP e,kO (eZ k c),l⟩
theorem Cc {t:Nat}(h:Mx t=true):t<1048576/\t≠0:=by
 unfold Mx at h;split at h
 ·cases h
 ·rename_i a;have:=aa3 h;exact⟨by omega,fun e=>by subst e;simp at a⟩
theorem Gc {t:TypeId}{x:X}{k:Nat}{K:TK}(f:TS G F L ρ M τ) (l:M.get k=none) (m:(cB τ x).okc=true) (d:t<1048576/\t≠0) (h:K (M.set k (.box t (ct (cB τ x)))) (bL (some k) (.own k 0) τ)) (g:Nat) :
  Both G K F (L.set k (.box g t (aM (val L ρ x)))) (put (some k) (.own k 0) ρ):=by
 have b:=cu f.tl l;have a:Ext L (L.set k (.box g t (aM (val L ρ x)))):=by
  intro j p e;refine⟨p,?_,Own.aah p⟩;rw[Loc.aac,vv (by rintro rfl;rw[b] at e;cases e)];exact e
 have n:=f.new (aF.le_refl F) b (o:=.box g t (aM (val L ρ x))) (to:=.box t (ct (cB τ x))) ⟨⟨d.1,.inl rfl,d.2⟩,(eJ f.env m).ext (aF.le_refl F) a⟩;exact⟨_,_,n.put (c:=.own k 0) (sv:=.own k 0) ⟨rfl,g,t,_,by rw[Loc.aac,o6 rfl]⟩ (some k),h⟩
theorem AV {t:TypeId}{zs:List Value}{k:Nat}{K:TK}(d:TS G F L ρ M τ) (e:M.get k=none) (a:t<1048576/\t≠0) (h:K (M.set k (.box t (zs.map sS))) (bL (some k) (.own k 0) τ)) (g:Nat) :
  Both G K F (L.set k (.box g t zs)) (put (some k) (.own k 0) ρ):=by
 have b:=cu d.tl e;have f:=d.new (aF.le_refl F) b (o:=.box g t zs) (to:=.box t (zs.map sS)) ⟨⟨a.1,.inl rfl,a.2⟩,mg zs⟩;exact⟨_,_,f.put (c:=.own k 0) (sv:=.own k 0) ⟨rfl,g,t,_,by rw[Loc.aac,o6 rfl]⟩ (some k),h⟩
theorem Gd {e n sz:Nat}{xs:List X}{d:Option Nat}{K:TK}(a:TS G F L ρ M τ) (k:rj τ sz xs=true) (m:xs.length=n) (p:n<=maxLen) (h:K M (bL d (.slx (vA τ xs)) τ)) {g:Nat}{F':aF}(b:F.le F')
  (l:F' g=some (.cells (cellsOf L ρ xs).toArray e (0,0))):Both G K F' L (put d (.v (.slice (some ⟨g,0,none⟩) n n)) ρ):=by
 obtain⟨q,o,f⟩:=jV a.env k;have j:cg F' (some ⟨g,0,none⟩) 0 (cellsOf L ρ xs):=⟨_,_,_,_,rfl,l,rfl,fun i v hi=>⟨by simpa using hi,ud _⟩⟩;refine⟨_,_,(a.mono b).put (c:=.slx (vA τ xs)) ⟨_,rfl,?_⟩ d,h⟩;simp only[Rel];exact⟨⟨g,0,none⟩,by rw[f,m],by omega,sz,(o.mono b).frz j⟩
theorem yI (f:∀j,aT F L (τ j) (ρ j)) {k g:Nat}{t:TypeId}{cs:List Value}(d:L.get k=some (.box g t cs)):∀{xs:List X}{a:List Nat},wm k τ xs=some a ->
  ga L ρ 1 xs=true/\cellsOf L ρ xs=a.map (fun o=>.pointer (some ⟨g,o,none⟩))/\a.length=xs.length
 | [],a,h=>by
  simp only[wm,w7] at h;subst h;exact⟨rfl,rfl,rfl⟩
 | x::xs,a,h=>by
  simp only[wm] at h;split at h
  case h_2=>cases h
  rename_i j off l m q;split at h
  case h_2=>cases h
  rename_i n;obtain rfl:=v8 n;injection h with h
  subst h;obtain⟨u,s,p⟩:=yI f d q;have c:=uJ f x;rw[m] at c;simp only[Rel] at c;obtain⟨w,v,cs',b,r⟩:=c;rw[d] at b;injection b with b
  injection b with q1 q2 q3
  subst q1;have e:aM (val L ρ x)=[.pointer (some ⟨g,off,none⟩)]:=by rw[r];rfl
  exact⟨by simp only[ga,e,fZ];exact u,by simp only[cellsOf,e,s];rfl,by simp[p]⟩
theorem Ge {e n k:Nat}{b:List Nat}{xs:List X}{d:Option Nat}{K:TK}(p:TS G F L ρ M τ) (f:wm k τ xs=some b) (o:xs≠[]) (u:xs.length=n) (w:n<=maxLen) (h:K M (bL d (.slo k b) τ)) :
  ga L ρ 1 xs=true/\∀{g:Nat}{F':aF},F.le F'->F' g=some (.cells (cellsOf L ρ xs).toArray e (0,0))->Both G K F' L (put d (.v (.slice (some ⟨g,0,none⟩) n n)) ρ):=by
 obtain⟨x,a,rfl⟩:∃x a,xs=x::a:=by
  cases xs with
  | nil=>exact p7 rfl o
  | cons x a=>exact⟨x,a,rfl⟩
 have m:∃g t cs,L.get k=some (.box g t cs):=by
  have f:=f;simp only[wm] at f;split at f
  case h_2=>cases f
  rename_i j off l y hl;split at f
  case h_2=>cases f
  rename_i hj;obtain rfl:=v8 hj;have q:=uJ p.env x;rw[y] at q;simp only[Rel] at q;obtain⟨g',t',cs',z,e2⟩:=q;exact⟨g',t',cs',z⟩
 obtain⟨gb,t,cs,m⟩:=m;obtain⟨k1,k2,r⟩:=yI p.env m f;refine⟨k1,fun{g F'} hF hg=>?_⟩;have s:cg F' (some ⟨g,0,none⟩) 0 (cellsOf L ρ (x::a)):=⟨_,_,_,_,rfl,hg,rfl,fun i v hi=>⟨by simpa using hi,ud _⟩⟩;refine⟨_,_,(p.mono hF).put (c:=.slo k b) ⟨_,rfl,?_⟩ d,h⟩;simp only[Rel];exact⟨gb,t,cs,⟨g,0,none⟩,m,by rw[r,u],by rw[r,u];exact w,by rw[k2] at s;exact s⟩
theorem Nw {e n sz:Nat}{xs:List X}{k:Nat}{K:TK}(b:TS G F L ρ M τ) (f:rj τ sz xs=true) (l:xs.length=n) (q:n<=maxLen) (d:M.get k=none) (h:K (M.set k (.row e sz (vA τ xs))) (bL (some k) (.rw k) τ)) (g:Nat) :
  Both G K F (L.set k (.row (.slice (some ⟨g,0,none⟩) n n) e sz n (cellsOf L ρ xs))) (put (some k) (.v (.slice (some ⟨g,0,none⟩) n n)) ρ):=by
 obtain⟨r,m,j⟩:=jV b.env f;have a:=cu b.tl d;have p:=b.new (aF.le_refl F) a (o:=.row (.slice (some ⟨g,0,none⟩) n n) e sz n (cellsOf L ρ xs)) (to:=.row e sz (vA τ xs)) ⟨rfl,rfl,by rw[j,l],⟨q,_,_,rfl,fun e=>(by cases e)⟩,m⟩;exact⟨_,_,p.put (c:=.rw k) (ow (by rw[Loc.aac,o6 rfl])) (some k),h⟩
theorem nQ {e sz:Nat}{k:Nat}{els news:List (List C)}{d:Option Nat}{K:TK}(p:TS G F L ρ M τ) {s:Value}{xs ys:List Value}(m:L.get k=some (.row s e sz els.length xs)) (o:aP F sz els xs) (b:aP F sz news ys)
  (f:els.length+news.length<=maxLen) (h:K ((M.aag (C.kill k)).set k (.row e sz (els++news))) (bL d (.rw k) fun j=>(τ j).kill k)) {v:Value}(q:∃a c,v=.slice a (els.length+news.length) c/\(a=none->els.length+news.length=0)) :
  Both G K F (L.set k (.row v e sz (els.length+news.length) (xs++ys))) (put d (.v v) ρ):=by
 obtain⟨a,c,rfl,n⟩:=q;have l:=p.aax (k:=k) (o':=.row (.slice a (els.length+news.length) c) e sz (els.length+news.length) (xs++ys)) (to:=.row e sz (els++news)) (fun g t cs e=>by rw[m] at e;injection e with e;cases e)
  ⟨rfl,rfl,by simp,⟨f,a,c,rfl,n⟩,o.append b⟩
 exact⟨_,_,l.put (c:=.rw k) (ow (by rw[Loc.aac,o6 rfl])) d,h⟩
theorem mo {e sz:Nat}{k:Nat}{news:List (List C)}{d:Option Nat}{K:TK}(b:TS G F L ρ M τ) {ys:List Value}(l:M.get k=none) (f:aP F sz news ys)
  (p:news.length<=maxLen) (h:K (M.set k (.row e sz news)) (bL d (.rw k) τ)) {v:Value}(n:∃a c,v=.slice a (0+news.length) c/\(a=none->0+news.length=0)) :
  Both G K F (L.set k (.row v e sz (0+news.length) ([]++ys))) (put d (.v v) ρ):=by
 obtain⟨a,c,rfl,m⟩:=n;have j:=b.new (aF.le_refl F) (cu b.tl l) (o:=.row (.slice a (0+news.length) c) e sz (0+news.length) ([]++ys)) (to:=.row e sz news) ⟨rfl,rfl,by simp,⟨by omega,a,c,rfl,m⟩,f⟩;exact⟨_,_,j.put (c:=.rw k) (ow (by rw[Loc.aac,o6 rfl])) d,h⟩
theorem qj {x:X}{k e sz:Nat}{els:List (List C)}(f:TS G F L ρ M τ) (l:cB τ x=.rw k) (p:M.get k=some (.row e sz els)) :
  ∃a c xs,ev ρ x=.v (.slice a els.length c)/\L.get k=some (.row (.slice a els.length c) e sz els.length xs)/\aP F sz els xs/\els.length<=maxLen:=by
 obtain⟨a,c,r,o,n,h,m,d⟩:=tO f.env l;obtain⟨v,xs,b,⟨j,_⟩,q⟩:=lu f.tl p;rw[d] at b;injection b with b
 injection b with q1 q2 q3 q4 q5
 subst q2 q3 q4 q5;exact⟨a,c,_,m,d,q,j⟩
set_option maxHeartbeats 1000000 in
theorem Du {e sz b:Nat}{s x:X}{d:Option Nat}{K:TK}(j:TS G F L ρ M τ) (h:Nk e sz b (cB τ s) (cB τ x) d M τ K):∃sv xv,ev ρ s=.v sv/\ev ρ x=.v xv/\FP F L e sz b sv xv fun L1 v=>Both G K F L1 (Fr.put d (.v v) ρ):=by
 have he:=j.env;simp only[Nk,fI] at h;split at h
 ·rename_i k news z m;split at h
  case h_2=>exact h.elim
  rename_i e' bb els n;split at h
  case h_2=>exact h.elim
  rename_i h1 h2;obtain rfl:=v8 h1;obtain rfl:=v8 h2;obtain⟨g1,l,q,w⟩:=h;obtain⟨a,c,xs,e1,e2,hr,hm⟩:=qj j z n;obtain⟨r,t,aE,e3,e4,e5,e6,e7⟩:=kP he m;obtain⟨ys,y1,y2,y3⟩:=jr e7 g1;exact⟨_,_,e1,e3,k,els.length,xs,news.length,ys,.inl e2,⟨r,t,rfl,y1,y2.imp id .inl⟩,y3.ones,l,q,fun v hv=>nQ j e2 hr y3 l w hv⟩
 ·rename_i news k z m;split at h
  case h_2=>exact h.elim
  rename_i n;obtain⟨g1,l,q,w⟩:=h;obtain⟨r,t,aE,e3,e4,e5,e6,e7⟩:=kP he m;obtain⟨ys,y1,y2,y3⟩:=jr e7 g1;simp only[abe] at l q;exact⟨_,_,pG he z,e3,k,0,[],news.length,ys,.inr (.inl ⟨cu j.tl n,rfl,rfl,rfl⟩),⟨r,t,rfl,y1,y2.imp id .inl⟩,y3.ones,l,q,fun v hv=>mo j n y3 (by omega) w hv⟩
 ·rename_i els news k z m;split at h
  case h_2=>exact h.elim
  rename_i n;obtain⟨g0,bl,g1,l,q,w⟩:=h;obtain⟨a,cc,e1,hm,e2⟩:=B6 he z;obtain⟨r,t,aE,e3,e4,e5,e6,e7⟩:=kP he m;obtain⟨ys,y1,y2,y3⟩:=jr e7 g1;obtain⟨xs,x1,x2,x3⟩:=jr e2 bl;refine⟨_,_,e1,e3,k,els.length,xs,news.length,ys,.inr (.inr ⟨cu j.tl n,a,rfl,g0,x1,x2⟩),⟨r,t,rfl,y1,y2.imp id .inl⟩,y3.ones,l,q,fun v hv=>?_⟩;obtain⟨av,cv,rfl,hn⟩:=hv;have h1:=j.new (aF.le_refl F) (cu j.tl n) (o:=.row (.slice av (els.length+news.length) cv) e sz (els.length+news.length) (xs++ys)) (to:=.row e sz (els++news)) ⟨rfl,rfl,by simp,⟨l,av,cv,rfl,hn⟩,x3.append y3⟩;exact⟨_,_,h1.put (c:=.rw k) (ow (by rw[Loc.aac,o6 rfl])) _,w⟩
 ·rename_i k k' z m;have m:=B0 m;split at h
  case h_2=>exact h.elim
  rename_i e' bb els bm ao news n p;split at h
  case h_2=>exact h.elim
  rename_i h1 h2 h3;obtain rfl:=v8 h1;obtain rfl:=v8 h2;obtain rfl:=v8 h3;obtain⟨g1,l,q,w⟩:=h;obtain⟨a,c,xs,e1,e2,hr,hm⟩:=qj j z n;obtain⟨r,t,ys,e3,e4,f,bk⟩:=qj j m p;refine⟨_,_,e1,e3,k,els.length,xs,news.length,ys,.inl e2,⟨r,t,rfl,jb f,?_⟩,f.ones,l,q,fun v hv=>nQ j e2 hr f l w hv⟩;cases r with
  | some ad=>exact .inr (.inr ⟨k',_,_,_,_,_,ad,t,e4,rfl,rfl,fun i u hu=>hu⟩)
  | none =>
   obtain⟨v,bi,q1,⟨_,a2,c2,y,q3⟩,q4⟩:=lu j.tl p;rw[e4] at q1;injection q1 with q1
   injection q1 with r1 r2 r3 r4 r5
   rw[<-r1] at y;injection y with y
   have hz:=q3 y.symm;have hl:=jb f;refine .inr (.inl ⟨hz,List.length_eq_zero_iff.1 (by rw[hl,hz];simp)⟩)
 ·rename_i k' k z m;have m:=B0 m;split at h
  case h_2=>exact h.elim
  rename_i bm ao news n p;split at h
  case h_2=>exact h.elim
  rename_i h3;obtain rfl:=v8 h3;obtain⟨g1,l,q,w⟩:=h;obtain⟨r,t,ys,e3,e4,f,bk⟩:=qj j m p;simp only[abe] at l q;refine⟨_,_,pG he z,e3,k,0,[],news.length,ys,.inr (.inl ⟨cu j.tl n,rfl,rfl,rfl⟩),⟨r,t,rfl,jb f,?_⟩,f.ones,l,q,fun v hv=>mo j n f (by omega) w hv⟩;cases r with
  | some ad=>exact .inr (.inr ⟨k',_,_,_,_,_,ad,t,e4,rfl,rfl,fun i u hu=>hu⟩)
  | none =>
   obtain⟨v,bi,q1,⟨_,a2,c2,y,q3⟩,q4⟩:=lu j.tl p;rw[e4] at q1;injection q1 with q1
   injection q1 with r1 r2 r3 r4 r5
   rw[<-r1] at y;injection y with y
   have hz:=q3 y.symm;have hl:=jb f;refine .inr (.inl ⟨hz,List.length_eq_zero_iff.1 (by rw[hl,hz];simp)⟩)
 ·exact h.elim
theorem Nx {e sz b:Nat}{zs:List Value}{s x:X}{d:Option Nat}{K:TK}(j:TS G F L ρ M τ) (h:bS P (.app e sz b zs s x) d M τ K):evalOp P (.app e sz b zs s x) d F L ρ (Both G K):=by
 obtain⟨sv,k,a,f,c⟩:=Du j h;simp only[evalOp,a,f];exact c
theorem J6 {e sz b:Nat}{zs:List Value}{s x:X}{d:Option Nat}{K:TK}(l:TS G F L ρ M τ) (h:bS P (.appX e sz b zs s x) d M τ K):evalOp P (.appX e sz b zs s x) d F L ρ (Both G K):=by
 obtain⟨sv,u,f,k,⟨o,n,xs,m,news,j,a,p,r,q,c⟩⟩:=Du l h;simp only[evalOp,f,k];exact⟨o,n,xs,m,news,j,a,p,r,q,fun v t _=>c v t⟩
set_option maxHeartbeats 1000000 in
theorem J7 {e sz b:Nat}{zs:List Value}{s x:X}{d:Option Nat}{K:TK}(f:TS G F L ρ M τ) (h:bS P (.appD e sz b zs s x) d M τ K):evalOp P (.appD e sz b zs s x) d F L ρ (Both G K):=by
 have he:=f.env;simp only[bS,fI,fk,eI] at h;simp only[evalOp];split at h
 ·rename_i k news q r;split at h
  case h_2=>exact h.elim
  rename_i e' aE els m;split at h
  case h_2=>exact h.elim
  rename_i h1 h2;obtain rfl:=v8 h1;obtain rfl:=v8 h2;obtain⟨w,l,n,t⟩:=h;obtain⟨a,c,xs,e1,e2,hr,hm⟩:=qj f q m;obtain⟨a',u,ad,z,e4,e5,e6,e7⟩:=kP he r;obtain⟨ys,p,y,j⟩:=jr e7 w;rw[e1,z];exact⟨k,els.length,xs,news.length,ys,.inl e2,⟨a',u,rfl,p,y⟩,j.ones,l,n,fun v hv _=>nQ f e2 hr j l t hv⟩
 ·rename_i news k q r;split at h
  case h_2=>exact h.elim
  rename_i m;obtain⟨w,l,n,t⟩:=h;obtain⟨a',u,ad,z,e4,e5,e6,e7⟩:=kP he r;obtain⟨ys,p,y,j⟩:=jr e7 w;simp only[abe] at l n;rw[pG he q,z];exact⟨k,0,[],news.length,ys,.inr (.inl ⟨rfl,cu f.tl m,rfl,rfl,rfl⟩),⟨a',u,rfl,p,y⟩,j.ones,l,n,fun v hv _=>mo f m j (by omega) t hv⟩
 ·rename_i els news k q r;split at h
  case h_2=>exact h.elim
  rename_i m;obtain⟨g0,al,w,l,n,t⟩:=h;obtain⟨a,be,e1,hm,e2⟩:=B6 he q;obtain⟨a',u,ad,z,e4,e5,e6,e7⟩:=kP he r;obtain⟨ys,p,y,j⟩:=jr e7 w;obtain⟨xs,x1,x2,x3⟩:=jr e2 al;rw[e1,z];refine⟨k,els.length,xs,news.length,ys,.inr (.inr ⟨rfl,cu f.tl m,a,rfl,g0,x1,x2⟩),⟨a',u,rfl,p,y⟩,j.ones,l,n,fun v hv _=>?_⟩;obtain⟨av,cv,rfl,hn⟩:=hv;have h1:=f.new (aF.le_refl F) (cu f.tl m) (o:=.row (.slice av (els.length+news.length) cv) e sz (els.length+news.length) (xs++ys)) (to:=.row e sz (els++news)) ⟨rfl,rfl,by simp,⟨l,av,cv,rfl,hn⟩,x3.append j⟩;exact⟨_,_,h1.put (c:=.rw k) (ow (by rw[Loc.aac,o6 rfl])) _,t⟩
 ·exact h.elim
theorem J8 {e:Nat}{s x:X}{d:Option Nat}{K:TK}(l:TS G F L ρ M τ) (h:bS P (.appS e s x) d M τ K):evalOp P (.appS e s x) d F L ρ (Both G K):=by
 have q:=l.env;simp only[bS,fI,fk,eI] at h;simp only[evalOp];split at h
 ·rename_i k t n o;split at h
  case h_2=>exact h.elim
  rename_i e' aa els m;split at h
  case h_2=>exact h.elim
  rename_i z w;obtain rfl:=v8 z;obtain rfl:=v8 w;obtain⟨g1,f,j,p⟩:=h;obtain⟨a,c,xs,y,u,hr,hm⟩:=qj l n m;have b:(ak t.data.toList).length=t.size:=by simp[ak]
  rw[y,(kK q o).1];rw[b] at f j;refine⟨k,els.length,xs,.inl u,f,by simpa using j,fun v r=>?_⟩;have:=nQ (news:=ak t.data.toList) (v:=v) l u hr (mQ t.data.toList) (by rw[b];exact f) p (by rw[b];exact r);rw[b] at this;exact this
 ·rename_i t k n o;split at h
  case h_2=>exact h.elim
  rename_i m;obtain⟨g1,f,j,p⟩:=h;have b:(ak t.data.toList).length=t.size:=by simp[ak]
  rw[pG q n,(kK q o).1];rw[b] at f j;simp only[abe] at f j;refine⟨k,0,[],.inr ⟨cu l.tl m,rfl,rfl,rfl⟩,f,by simpa using j,fun v r=>?_⟩;have:=mo (news:=ak t.data.toList) (v:=v) l m (mQ t.data.toList) (by rw[b];omega) p (by rw[b];exact r);rw[b] at this;exact this
 ·exact h.elim
theorem qk {F:aF}(a:IntKind):∀m:Nat,aP F 1 (List.replicate m [C.int a 0]) (List.replicate m (Value.int a 0))
 | 0=>by simp only[List.replicate_zero,aP]
 | m+1=>by
  simp only[abD,aP];refine⟨[.int a 0],_,rfl,rfl,rfl,?_,qk a m⟩;simp only[aG,Rel];exact⟨_,_,rfl,⟨rfl,by cases a<;>rfl⟩,rfl⟩
theorem J9 {e b:Nat}{j:IntKind}{s x:X}{d:Option Nat}{K:TK}(n:TS G F L ρ M τ) (h:bS P (.appZ e b j s x) d M τ K):evalOp P (.appZ e b j s x) d F L ρ (Both G K):=by
 have t:=n.env;simp only[bS,fI,fk,eI] at h;simp only[evalOp];split at h
 ·rename_i k kx i p q;split at h
  case h_2=>exact h.elim
  rename_i e' ab els o;split at h
  case h_2=>exact h.elim
  rename_i h1 y;obtain rfl:=v8 h1;obtain rfl:=v8 y;obtain⟨m,rfl,g1,f,l,r⟩:=h;obtain⟨a,c,xs,z,w,hr,hm⟩:=qj n p o;rw[z,(fp t q).1];rw[abx] at f l;refine⟨k,els.length,xs,.inl w,f,l,fun v u=>?_⟩;have:=nQ (news:=List.replicate m [C.int j 0]) (v:=v) n w hr (qk j m) (by rw[abx];exact f) r (by rw[abx];exact u);rw[abx] at this;exact this
 ·rename_i kx i k p q;split at h
  case h_2=>exact h.elim
  rename_i o;obtain⟨m,rfl,g1,f,l,r⟩:=h;rw[pG t p,(fp t q).1];rw[abx] at f l;simp only[abe] at f l;refine⟨k,0,[],.inr ⟨cu n.tl o,rfl,rfl,rfl⟩,f,l,fun v u=>?_⟩;have:=mo (news:=List.replicate m [C.int j 0]) (v:=v) n o (qk j m) (by rw[abx];omega) r (by rw[abx];exact u);rw[abx] at this;exact this
 ·exact h.elim
theorem HV {n:Nat}{y x:X}{d:Option Nat}{K:TK}(ht:TS G F L ρ M τ) (h:storeT false n y x d M τ K):evalOp P (.store n y x) d F L ρ (Both G K):=by
 have he:=ht.env;simp only[storeT,fI,fk,eI] at h;simp only[evalOp];split at h
 ·rename_i k off h1 h2 h3 hy;split at h
  case h_3=>exact h.elim
  case h_2 =>
   rename_i t pre cs post hk;rcases h with⟨o,rfl,h⟩ | ⟨pre',bs,bi,bo,h⟩
   case inr =>
    obtain⟨g,ty,v1,w,v3,hL,u,z,ag,l⟩:=tQ ht.tl hk;have p:=eJ he h1;have f:(aM (val L ρ x)).length=n:=by rw[p.len];exact bJ h2
    have r:fZ (aM (val L ρ x)) n=true:=dJ f;have ho:=lO (gN p h3);rw[r,ho,(fG he hy).1];simp only[hL];have bb:off+n<=v1.length:=by rw[u.len];exact bs
    have s:(((v1++(w++v3)).drop off).take n).length=n:=by
     simp;omega
    rw[gF l.2.2 (dJ s)];have al:aR (v1++(w++v3)) off (aM (val L ρ x))=aR v1 off (aM (val L ρ x))++(w++v3):=by
     simp only[aR];rw[List.take_append_of_le_length (by omega),f,List.drop_append_of_le_length bb];simp
    have bj:aG F [] pre' (aR v1 off (aM (val L ρ x))):=by rw[<-bo];exact gT u (eZ bi p)
    have h4:=ht.turn (o':=.box g ty (aR (v1++(w++v3)) off (aM (val L ρ x)))) (to:=.win t pre' cs post) hL ⟨rfl,rfl⟩ (fun g' t' cs' e=>by injection e with a b c;subst a b;exact⟨_,rfl⟩)
     (fun L' hx=>⟨l,_,w,v3,al,bj,z.ext (aF.le_refl F) hx,ag⟩)
    exact⟨_,_,h4.put (c:=.und) (sv:=.v undef) ⟨_,rfl,by simp only[Rel]⟩ d,h⟩
   split at h
   case h_2=>exact h.elim
   rename_i hl;obtain⟨g,ty,v1,w,v3,hL,u,z,ag,l⟩:=tQ ht.tl hk;have p:=eJ he h1;have f:(aM (val L ρ x)).length=n:=by rw[p.len];exact bJ h2
   have r:fZ (aM (val L ρ x)) n=true:=dJ f;have ho:=lO (gN p h3);rw[r,ho,(fG he hy).1];simp only[hL];have ap:=(z.drop o).take n;have ab:((w.drop o).take n).length=n:=by rw[ap.len];exact bJ hl
   have s:(((v1++(w++v3)).drop (pre.length+o)).take n).length=n:=by
    rw[<-u.len];simp at ab ⊢;omega
   rw[gF l.2.2 (dJ s)];have al:aR (v1++(w++v3)) (pre.length+o) (aM (val L ρ x))=v1++(aR w o (aM (val L ρ x))++v3):=by
    by_cases cf:n=0
    ·have:aM (val L ρ x)=[]:=abh (by omega);rw[this];simp[aR]
    have hn:o+n<=w.length:=by simp at ab;omega
    simp only[aR];rw[<-u.len,List.take_append,abz (by omega),show v1.length+o-v1.length=o by omega,List.take_append_of_le_length (by omega),f,Nat.add_assoc,List.drop_append,List.drop_eq_nil_of_le (by omega),show v1.length+(o+n)-v1.length=o+n by omega,List.drop_append_of_le_length hn];simp
   have h4:=ht.turn (o':=.box g ty (aR (v1++(w++v3)) (pre.length+o) (aM (val L ρ x)))) (to:=.win t pre (fN cs o (ct (cB τ x))) post) hL ⟨rfl,rfl⟩ (fun g' t' cs' e=>by injection e with a b c;subst a b;exact⟨_,rfl⟩)
    (fun L' hx=>⟨l,v1,_,v3,al,u,(gT z p).ext (aF.le_refl F) hx,ag⟩)
   exact⟨_,_,h4.put (c:=.und) (sv:=.v undef) ⟨_,rfl,by simp only[Rel]⟩ d,h⟩
  rename_i t cs hk;split at h
  case h_2=>exact h.elim
  rename_i hl;obtain⟨g,ty,vs,hL,z,l⟩:=lq ht.tl hk;have p:=eJ he h1;have r:fZ (aM (val L ρ x)) n=true:=dJ (by rw[p.len];exact bJ h2);have ho:=lO (gN p h3);rw[r,ho,(fG he hy).1];simp only[hL];have ap:=(z.drop off).take n;rw[gF l.2.2 (dJ (by rw[ap.len];exact bJ hl))];have h4:=ht.turn (o':=.box g ty (aR vs off (aM (val L ρ x)))) (to:=.box t (fN cs off (ct (cB τ x)))) hL ⟨rfl,rfl⟩ (fun g' t' cs' e=>by injection e with a b c;subst a b;exact⟨_,rfl⟩)
   (fun L' hx=>⟨l,(gT z p).ext (aF.le_refl F) hx⟩)
  exact⟨_,_,h4.put (c:=.und) (sv:=.v undef) ⟨_,rfl,by simp only[Rel]⟩ d,h⟩
 ·rename_i k j off h1 h2 h3 hy;split at h
  case h_2=>exact h.elim
  rename_i t sz els h0 hk hp;obtain⟨r0,es,r1,r2,r3⟩:=h;obtain⟨ad,t',q,m,c,be,e1,e2⟩:=uI he hy;obtain⟨v,xs,e3,⟨hm,q6⟩,z⟩:=lu ht.tl hk;rw[e2] at e3;injection e3 with e3
  injection e3 with q1 q2 q3 q4 q5
  subst q1 q2 q3 q4 q5;have p:=eJ he h1;have f:(aM (val L ρ x)).length=n:=by rw[p.len];exact bJ h2
  have r:fZ (aM (val L ρ x)) n=true:=dJ f;have ho:=lO (gN p h3);rw[r,ho,e1];have ch:es.length=q:=by
   obtain⟨us,u1,_,u3,_⟩:=z.at r1;rw[<-u1,u3.len]
  have hn:off+n<=q:=aa3 r0;have aE:=z.set (ds:=(ct (cB τ x)).map C.can) (us:=aM (val L ρ x)) (off:=off) r1 (by rw[f];exact hn) (kO (eZ hp p)) (nP h3);have aw:j<els.length:=(xD.1 r1).1;have bl:=jb z;have h4:=ht.turn (o':=.row (.slice (some ad) els.length c) t' q els.length (aR be (j*q+off) (aM (val L ρ x)))) (to:=.row t' q (els.set j (fN es off ((ct (cB τ x)).map C.can)))) e2 ⟨rfl,rfl,rfl⟩
   (fun g' cb cs' e=>by cases e) (fun L' hx=>⟨rfl,rfl,by simp,⟨hm,_,_,rfl,fun e=>(by cases e)⟩,aE⟩)
  refine⟨.inl ⟨k,_,_,_,_,_,ad,c,e2,rfl,rfl,?_,gN p h3,_,_,h4.put (c:=.und) (sv:=.v undef) ⟨_,rfl,by simp only[Rel]⟩ d,r3 es r1⟩⟩;rw[bl,f];have:(j+1)*q<=els.length*q:=Nat.mul_le_mul_right _ aw;rw[Nat.add_mul] at this;omega
 ·exact h.elim
theorem E7 {n:Nat}{y x:X}{d:Option Nat}{K:TK}(o:TS G F L ρ M τ) (h:EY n y x d M τ K):evalOp P (.store n y x) d F L ρ (Both G K):=by
 have s:=o.env;unfold EY at h;split at h
 ·rename_i es off b hy hx;split at h
  case h_2=>exact h.elim
  rename_i hn;obtain rfl:=v8 hn;obtain⟨p,z⟩:=h;obtain⟨b',q,j,vs,k,hp,ho,hr⟩:=qh s hy;have ex:=jc s hx;have m:vs[off]?=some (.bool b):=by
   obtain⟨r1,w⟩:=kH.1 hr;have a:off<vs.length:=by rw[r1];exact(xD.1 p).1
   have:=w off _ _ p (w8 a);simp only[Rel] at this;rw[w8 a,this]
  have l:cg F (some ⟨b',q,none⟩) j [.bool b]:=by
   have:=kN (n:=1) (es:=es) hp;have e:(vs.drop off).take 1=[.bool b]:=by
    have a:off<vs.length:=(xD.1 m).1;rw[abI a];rw[w8 a] at m;injection m with m
    rw[m];rfl
   rwa [e] at this
  have r:Both G K F L (Fr.put d (.v undef) ρ):=⟨_,_,o.put (c:=.und) (sv:=.v undef) ⟨_,rfl,by simp only[Rel]⟩ d,z⟩;have f:∀u∈[Value.bool b],u.oneCell'=true:=fun u hu=>by rw[abv.1 hu];rfl
  have t:aM (val L ρ x)=[.bool b]:=by simp only[val,ex,conc,aM]
  have e3:fZ [Value.bool b] 1=true:=rfl;have e4:jQ [Value.bool b]=true:=rfl;simp only[evalOp,t,e3,e4];rcases k with⟨k,rfl⟩ | k
  ·rw[k];exact⟨.inr ⟨l,f,r⟩⟩
  ·rw[k];exact⟨.inr ⟨l,f,r⟩⟩
 ·exact HV o h
theorem E8 {n:Nat}{y x:X}{d:Option Nat}{K:TK}(ht:TS G F L ρ M τ) (h:storeT false n y x d M τ K):evalOp P (.storeX n y x) d F L ρ (Both G K):=by
 have he:=ht.env;simp only[storeT,fI,fk,eI] at h;simp only[evalOp];split at h
 ·rename_i k off h1 h2 h3 hy;split at h
  case h_3=>exact h.elim
  case h_2 =>
   rename_i t pre cs post hk;rcases h with⟨o,rfl,h⟩ | ⟨pre',bs,bi,bo,h⟩
   case inr =>
    obtain⟨g,ty,v1,w,v3,hL,u,z,ag,l⟩:=tQ ht.tl hk;have p:=eJ he h1;have f:(aM (val L ρ x)).length=n:=by rw[p.len];exact bJ h2
    have r:fZ (aM (val L ρ x)) n=true:=dJ f;have ho:=lO (gN p h3);rw[r,ho,(fG he hy).1];simp only[hL];have bb:off+n<=v1.length:=by rw[u.len];exact bs
    have s:(((v1++(w++v3)).drop off).take n).length=n:=by
     simp;omega
    rw[gF l.2.2 (dJ s)];have al:aR (v1++(w++v3)) off (aM (val L ρ x))=aR v1 off (aM (val L ρ x))++(w++v3):=by
     simp only[aR];rw[List.take_append_of_le_length (by omega),f,List.drop_append_of_le_length bb];simp
    have bj:aG F [] pre' (aR v1 off (aM (val L ρ x))):=by rw[<-bo];exact gT u (eZ bi p)
    have h4:=ht.turn (o':=.box g ty (aR (v1++(w++v3)) off (aM (val L ρ x)))) (to:=.win t pre' cs post) hL ⟨rfl,rfl⟩ (fun g' t' cs' e=>by injection e with a b c;subst a b;exact⟨_,rfl⟩)
     (fun L' hx=>⟨l,_,w,v3,al,bj,z.ext (aF.le_refl F) hx,ag⟩)
    exact fun _=>⟨_,_,h4.put (c:=.und) (sv:=.v undef) ⟨_,rfl,by simp only[Rel]⟩ d,h⟩
   split at h
   case h_2=>exact h.elim
   rename_i hl;obtain⟨g,ty,v1,w,v3,hL,u,z,ag,l⟩:=tQ ht.tl hk;have p:=eJ he h1;have f:(aM (val L ρ x)).length=n:=by rw[p.len];exact bJ h2
   have r:fZ (aM (val L ρ x)) n=true:=dJ f;have ho:=lO (gN p h3);rw[r,ho,(fG he hy).1];simp only[hL];have ap:=(z.drop o).take n;have ab:((w.drop o).take n).length=n:=by rw[ap.len];exact bJ hl
   have s:(((v1++(w++v3)).drop (pre.length+o)).take n).length=n:=by
    rw[<-u.len];simp at ab ⊢;omega
   rw[gF l.2.2 (dJ s)];have al:aR (v1++(w++v3)) (pre.length+o) (aM (val L ρ x))=v1++(aR w o (aM (val L ρ x))++v3):=by
    by_cases cf:n=0
    ·have:aM (val L ρ x)=[]:=abh (by omega);rw[this];simp[aR]
    have hn:o+n<=w.length:=by simp at ab;omega
    simp only[aR];rw[<-u.len,List.take_append,abz (by omega),show v1.length+o-v1.length=o by omega,List.take_append_of_le_length (by omega),f,Nat.add_assoc,List.drop_append,List.drop_eq_nil_of_le (by omega),show v1.length+(o+n)-v1.length=o+n by omega,List.drop_append_of_le_length hn];simp
   have h4:=ht.turn (o':=.box g ty (aR (v1++(w++v3)) (pre.length+o) (aM (val L ρ x)))) (to:=.win t pre (fN cs o (ct (cB τ x))) post) hL ⟨rfl,rfl⟩ (fun g' t' cs' e=>by injection e with a b c;subst a b;exact⟨_,rfl⟩)
    (fun L' hx=>⟨l,v1,_,v3,al,u,(gT z p).ext (aF.le_refl F) hx,ag⟩)
   exact fun _=>⟨_,_,h4.put (c:=.und) (sv:=.v undef) ⟨_,rfl,by simp only[Rel]⟩ d,h⟩
  rename_i t cs hk;split at h
  case h_2=>exact h.elim
  rename_i hl;obtain⟨g,ty,vs,hL,z,l⟩:=lq ht.tl hk;have p:=eJ he h1;have r:fZ (aM (val L ρ x)) n=true:=dJ (by rw[p.len];exact bJ h2);have ho:=lO (gN p h3);rw[r,ho,(fG he hy).1];simp only[hL];have ap:=(z.drop off).take n;rw[gF l.2.2 (dJ (by rw[ap.len];exact bJ hl))];have h4:=ht.turn (o':=.box g ty (aR vs off (aM (val L ρ x)))) (to:=.box t (fN cs off (ct (cB τ x)))) hL ⟨rfl,rfl⟩ (fun g' t' cs' e=>by injection e with a b c;subst a b;exact⟨_,rfl⟩)
   (fun L' hx=>⟨l,(gT z p).ext (aF.le_refl F) hx⟩)
  exact fun _=>⟨_,_,h4.put (c:=.und) (sv:=.v undef) ⟨_,rfl,by simp only[Rel]⟩ d,h⟩
 ·rename_i k j off h1 h2 h3 hy;split at h
  case h_2=>exact h.elim
  rename_i t sz els h0 hk hp;obtain⟨r0,es,r1,r2,r3⟩:=h;obtain⟨ad,t',q,m,c,be,e1,e2⟩:=uI he hy;obtain⟨v,xs,e3,⟨hm,q6⟩,z⟩:=lu ht.tl hk;rw[e2] at e3;injection e3 with e3
  injection e3 with q1 q2 q3 q4 q5
  subst q1 q2 q3 q4 q5;have p:=eJ he h1;have f:(aM (val L ρ x)).length=n:=by rw[p.len];exact bJ h2
  have r:fZ (aM (val L ρ x)) n=true:=dJ f;have ho:=lO (gN p h3);rw[r,ho,e1];have ch:es.length=q:=by
   obtain⟨us,u1,_,u3,_⟩:=z.at r1;rw[<-u1,u3.len]
  have hn:off+n<=q:=aa3 r0;have aE:=z.set (ds:=(ct (cB τ x)).map C.can) (us:=aM (val L ρ x)) (off:=off) r1 (by rw[f];exact hn) (kO (eZ hp p)) (nP h3);have aw:j<els.length:=(xD.1 r1).1;have bl:=jb z;have h4:=ht.turn (o':=.row (.slice (some ad) els.length c) t' q els.length (aR be (j*q+off) (aM (val L ρ x)))) (to:=.row t' q (els.set j (fN es off ((ct (cB τ x)).map C.can)))) e2 ⟨rfl,rfl,rfl⟩
   (fun g' cb cs' e=>by cases e) (fun L' hx=>⟨rfl,rfl,by simp,⟨hm,_,_,rfl,fun e=>(by cases e)⟩,aE⟩)
  refine⟨k,_,_,_,_,_,ad,c,e2,rfl,rfl,?_,gN p h3,fun _=>⟨_,_,h4.put (c:=.und) (sv:=.v undef) ⟨_,rfl,by simp only[Rel]⟩ d,r3 es r1⟩⟩;rw[bl,f];have:(j+1)*q<=els.length*q:=Nat.mul_le_mul_right _ aw;rw[Nat.add_mul] at this;omega
 ·exact h.elim
theorem yJ {n:Nat}{y x:X}{d:Option Nat}{K:TK}(m:TS G F L ρ M τ) (h:storeT true n y x d M τ K):evalOp P (.storeD n y x) d F L ρ (Both G K):=by
 have r:=m.env;simp only[storeT,fI,fk,eI] at h;simp only[evalOp];split at h
 ·rename_i k off h1 s h3 u;split at h
  case h_3=>exact h.elim
  case h_2=>exact h.elim
  rename_i t cs hk;split at h
  case h_2=>exact h.elim
  rename_i z;obtain⟨g,ty,vs,p,q,f⟩:=lq m.tl hk;have j:=eJ r h1;have l:fZ (aM (val L ρ x)) n=true:=dJ (by rw[j.len];exact bJ s);have ho:=lO (gN j h3);rw[l,ho,(fG r u).1];simp only[p];have o:=(q.drop off).take n;rw[gF f.2.2 (dJ (by rw[o.len];exact bJ z))];have h4:=m.turn (o':=.box g ty (aR vs off (aM (val L ρ x)))) (to:=.box t (fN cs off (ct (cB τ x)))) p ⟨rfl,rfl⟩ (fun g' t' cs' e=>by injection e with a b c;subst a b;exact⟨_,rfl⟩)
   (fun L' w=>⟨f,(gT q j).ext (aF.le_refl F) w⟩)
  exact⟨_,_,h4.put (c:=.und) (sv:=.v undef) ⟨_,rfl,by simp only[Rel]⟩ d,h⟩
 ·exact h.elim
 ·exact h.elim
theorem HW {e sz b:Nat}{zs:List Value}{l c:X}{d:Option Nat}{K:TK}(j:TS G F L ρ M τ) (h:bS P (.makeS e sz b zs l c) d M τ K):evalOp P (.makeS e sz b zs l c) d F L ρ (Both G K):=by
 have q:=j.env;simp only[bS,fI,fk,eI] at h;simp only[evalOp];split at h
 case h_2=>exact h.elim
 rename_i k1 n k2 m k u v;split at h
 case h_2=>exact h.elim
 rename_i y w t;rw[(fp q u).1,(fp q v).1];have a:=cu j.tl y;simp only[a];obtain⟨x,r,s,p,g5⟩:=h;refine⟨x,r,s,p,fun g=>?_⟩;have hz:aG F [] ((zs.map sS).map C.can) zs:=kO (mg zs);have f:∀i:Nat,aP F sz (List.replicate i ((zs.map sS).map C.can)) (List.replicate i zs).flatten:=by
  intro i
  induction i with
  | zero=>simp only[List.replicate_zero,List.flatten_nil,aP]
  | succ i z =>
   simp only[abD,List.flatten_cons,aP];exact⟨zs,_,rfl,by have:=bJ w;simpa using this,nP t,hz,z⟩
 have h3:=j.new (aF.le_refl F) a (o:=.row (.slice (some ⟨g,0,none⟩) n.toNat m.toNat) e sz n.toNat (List.replicate n.toNat zs).flatten) (to:=.row e sz (List.replicate n.toNat ((zs.map sS).map C.can)))
  ⟨rfl,rfl,by simp,⟨abB (Int.toNat_le_toNat r) p,_,_,rfl,fun e=>(by cases e)⟩,f _⟩
 exact⟨_,_,h3.put (c:=.rw k) (ow (by rw[Loc.aac,o6 rfl])) (some k),g5⟩
end
section
variable {P:Program}{G:Nat->Option (Nat×TypeId)}{F:aF}{L:Loc}{ρ:Env}{M:TL}{τ:aY}
theorem Cd:∀{ks:List Nat}{i j m:Nat},cn ks i j=some m->∃n,ks[n]?=some j/\m=i+n
 | [],_,_,_,h=>by simp[cn] at h
 | k::ks,i,j,m,h=>by
  simp only[cn] at h;cases a:Nat.beq j k with
  | true =>
   have:=v8 a;subst this;rw[a] at h;injection h with h
   exact⟨0,by simp,by omega⟩
  | false =>
   rw[a] at h;obtain⟨n,b,c⟩:=Cd h;exact⟨n+1,by simpa using b,by omega⟩
theorem nj {ko:List Nat}{j m:Nat}(h:br ko j=some m):1000<=j/\ko[j-1000]?=some m:=by
 simp only[br] at h;split at h
 ·rename_i a;exact⟨aa3 a,h⟩
 ·cases h
theorem dz:∀{l:List Nat},bP l=true->l.Nodup
 | [],_=>List.nodup_nil
 | k::l,h=>by
  simp only[bP] at h;split at h
  ·cases h
  ·rename_i a;exact List.nodup_cons.2 ⟨fun b=>(by rw[dn.2 b] at a;cases a),dz h⟩
theorem Ka {L':Loc}{f:Nat->Option Nat}(k:∀j m,f j=some m->∀o,L.get j=some o->L'.get m=some o) (c:C) (v:Value) (q:c.leaf=true) (h:Rel F L c v):Rel F L' (uE f c) v:=by
 cases c<;>simp only[C.leaf,aaZ] at q<;>simp only[uE]
 case rw j =>
  simp only[Rel] at h;obtain⟨a,c,t,sz,n,xs,rfl,h⟩:=h;cases d:f j with
  | none=>simp only[Rel]
  | some m=>simp only[Rel];exact⟨a,c,t,sz,n,xs,rfl,k j m d _ h⟩
 case own j off =>
  simp only[Rel] at h;obtain⟨g,t,cs,h,rfl⟩:=h;cases d:f j with
  | none=>simp only[Rel]
  | some m=>simp only[Rel];exact⟨g,t,cs,k j m d _ h,rfl⟩
 case ifo m ti j off =>
  simp only[Rel] at h;obtain⟨g,t,cs,h,rfl⟩:=h;cases d:f j with
  | none=>simp only[Rel]
  | some m=>simp only[Rel];exact⟨g,t,cs,k j m d _ h,rfl⟩
 case mpr j =>
  simp only[Rel] at h;obtain⟨g,cs,h,rfl⟩:=h;cases d:f j with
  | none=>simp only[Rel]
  | some m=>simp only[Rel];exact⟨g,cs,k j m d _ h,rfl⟩
 case ownv=>exact h.elim
 case elr j a b =>
  simp only[Rel] at h;obtain⟨l,t,sz,n,c,xs,rfl,h⟩:=h;cases d:f j with
  | none=>simp only[Rel]
  | some m=>simp only[Rel];exact⟨l,t,sz,n,c,xs,rfl,k j m d _ h⟩
 case slo j a =>
  simp only[Rel] at h;obtain⟨g,t,cs,l,h,p,r,s⟩:=h;cases d:f j with
  | none=>simp only[Rel]
  | some m=>simp only[Rel];exact⟨g,t,cs,l,k j m d _ h,p,r,s⟩
 case slp=>exact h.elim
 all_goals
  exact bI (aF.le_refl F) (fun u e=>by rcases e with⟨off,e⟩ | e | e | ⟨_,_,_,e⟩ | ⟨_,_,e⟩<;>cases e) rfl h
theorem Rel.ren {L':Loc}{f:Nat->Option Nat}(a:∀j m,f j=some m->∀o,L.get j=some o->L'.get m=some o) {c:C}{v:Value}(h:Rel F L c v):Rel F L' (c.ren f) v:=Rel.mp (Ka a) 3 h
theorem dG.ren {L':Loc}{f:Nat->Option Nat}(b:∀j m,f j=some m->∀o,L.get j=some o->L'.get m=some o):∀{o:TO}{p:Own},dG F L o p->dG F L' (o.aag (C.ren f)) p
 | .box t cs,.box g a vs,r=>⟨r.1,r.2.map fun c _ v h=>h.ren b⟩
 | .row t sz els,.row v a l n xs,r=>r
 | .box _ _,.row ..,r=>r.elim
 | .row ..,.box ..,r=>r.elim
 | .map _,.row ..,r=>r.elim
 | .map es,.box g a vs,r=>r
 | .win ..,.row ..,r=>r.elim
 | .win ..,.box ..,⟨s,v1,q,v3,e,k,d,u⟩=>⟨s,v1,q,v3,e,k,d.map fun c _ v h=>h.ren b,u⟩
theorem rA (j:dH F L M):∀{ks:List Nat}{Lin:List TO},M.sub ks=some Lin->∃Li,L.sub ks=some Li/\Li.length=Lin.length/\∀(i:Nat) o p,Lin[i]?=some o->Li[i]?=some p->dG F L o p
 | [],Lin,h=>by simp only[TL.sub,w7] at h;subst h;exact⟨[],rfl,rfl,by simp⟩
 | k::ks,Lin,h=>by
  simp only[TL.sub] at h;split at h
  case h_2=>cases h
  rename_i o l e m;injection h with h
  subst h;obtain⟨Li,n,q,r⟩:=rA j m;rcases eX (j k) with⟨a,f⟩ | ⟨o',p,a,f,s⟩
  ·rw[e] at a;cases a
  ·rw[e] at a;injection a with a
   subst a;refine⟨p::Li,by simp only[Loc.sub,f,n],by simp[q],fun i c b hi d=>?_⟩;cases i with
   | zero=>simp only[aa2,w7] at hi d;subst hi;subst d;exact s
   | succ i=>exact r i c b (by simpa using hi) (by simpa using d)
theorem oz {ks:List Nat}{Li:List Own}(d:L.sub ks=some Li):∀j m,cn ks 1000 j=some m->∀o,L.get j=some o->(inp Li).get m=some o:=by
 intro j m h o b;obtain⟨n,c,rfl⟩:=Cd h;obtain⟨_,a⟩:=fo d;rw[bg,o6 (by omega),show 1000+n-1000=n by omega,<-a n j c];exact b
theorem tT (f:dH F L M) {ks:List Nat}{Lin:List TO}{Li:List Own}(e:Li.length=Lin.length) (d:L.sub ks=some Li) (c:∀(i:Nat) o p,Lin[i]?=some o->Li[i]?=some p->dG F L o p) :
  dH F (inp Li) (jG (Lin.map (TO.aag (C.ren (cn ks 1000))))):=by
 intro k;rw[cI,bg];split
 ·rw[abt];cases b:Lin[k-1000]? with
  | none =>
   have:Li[k-1000]?=none:=by rw[abE] at b ⊢;omega
   rw[this];trivial
  | some o =>
   have a:k-1000<Li.length:=by have:=(xD.1 b).1;omega
   rw[w8 a];exact(c _ _ _ b (w8 a)).ren (oz d)
 ·trivial
def mR (L:Loc) (k:Nat):Loc:=match L.get k with | some (.row ..)=>L.del k | _=>L
def nR:List Nat->Loc->Loc
 | [],L=>L
 | k::ks,L=>nR ks (mR L k)
theorem vG (k:Nat):(∀c v,c.leaf=true->Rel F L c v->Rel F (mR L k) (ic k c) v)/\(∀c sv,c.leaf=true->aT F L c sv->aT F (mR L k) (ic k c) sv):=by
 by_cases a:∃v t sz n xs,L.get k=some (.row v t sz n xs)
 ·obtain⟨v,t,sz,n,xs,a⟩:=a;have e:mR L k=L.del k:=by simp only[mR,a]
  rw[e];have d:∀g t cs,L.get k≠some (.box g t cs):=fun g t cs h=>by rw[a] at h;injection h with h;cases h
  have b:∀j,j≠k->∀o,L.get j=some o->∃o',(L.del k).get j=some o'/\Own.like o o':=fun j f o m=>⟨o,by rw[Loc.aai,vv f];exact m,Own.aah o⟩;exact⟨lz d b (aF.le_refl F),qi d b (aF.le_refl F)⟩
 ·have e:mR L k=L:=by
   simp only[mR];split
   ·rename_i h;exact p7 ⟨_,_,_,_,_,h⟩ a
   ·rfl
  rw[e];refine⟨fun c v l h=>?_,fun c sv l h=>?_⟩
  ·cases c<;>simp only[ic]<;>first
    | exact h
    | exact h.elim
    | (split<;>first | exact h | (simp only[Rel];done))
  ·cases c<;>simp only[ic]<;>first
    | exact h
    | trivial
    | (split<;>first | exact h | trivial)
theorem Rel.kills:∀(ks:List Nat) {L:Loc}{c:C}{v:Value},Rel F L c v->Rel F (nR ks L) (C.kills ks c) v
 | [],L,c,v,h=>h
 | k::ks,L,c,v,h=>Rel.kills ks (Rel.mp (vG k).1 3 h)
theorem aT.kills:∀(ks:List Nat) {L:Loc}{c:C}{sv:SV},aT F L c sv->aT F (nR ks L) (C.kills ks c) sv
 | [],L,c,sv,h=>h
 | k::ks,L,c,sv,h=>aT.kills ks (aT.mp (vG k).1 (vG k).2 3 h)
theorem dG.kills (ks:List Nat) {L:Loc}:∀{o:TO}{p:Own},dG F L o p->dG F (nR ks L) (o.aag (C.kills ks)) p
 | .box t cs,.box g a vs,r=>⟨r.1,r.2.map fun c _ v h=>h.kills ks⟩
 | .row t sz els,.row v a d n xs,r=>r
 | .box _ _,.row ..,r=>r.elim
 | .row ..,.box ..,r=>r.elim
 | .map _,.row ..,r=>r.elim
 | .map es,.box g a vs,r=>r
 | .win ..,.row ..,r=>r.elim
 | .win ..,.box ..,⟨k,v1,j,v3,e,f,b,l⟩=>⟨k,v1,j,v3,e,f,b.map fun c _ v h=>h.kills ks,l⟩
theorem Dv {k j:Nat}{o:Own}(h:(mR L k).get j=some o):L.get j=some o/\(j=k->∃g t cs,o=.box g t cs):=by
 unfold mR at h;split at h
 ·rw[Loc.aai] at h;split at h
  ·cases h
  ·rename_i a;exact⟨h,fun e=>p7 e a⟩
 ·rename_i b;refine⟨h,fun e=>?_⟩;subst e;cases o with
  | box g t cs=>exact⟨g,t,cs,rfl⟩
  | row v t sz n xs=>exact p7 h (b v t sz n xs)
theorem ql:∀{ks:List Nat}{L:Loc}{j:Nat}{o:Own},(nR ks L).get j=some o->L.get j=some o/\(j∈ks->∃g t cs,o=.box g t cs)
 | [],L,j,o,h=>⟨h,by simp⟩
 | k::ks,L,j,o,h=>by
  obtain⟨d,b⟩:=ql (ks:=ks) h;obtain⟨a,c⟩:=Dv d;exact⟨a,fun f=>by
   rcases aaQ.1 f with e | e
   ·exact c e
   ·exact b e⟩
theorem yK (ks:List Nat) (M:TL) (k:Nat):(TL.kills ks M).get k=(M.get k).map (TO.aag (C.kills ks)):=by
 cases ks with
 | nil =>
  simp only[TL.kills];cases M.get k with
  | none=>rfl
  | some o =>
   cases o with
   | box t cs =>
    have e:(C.kills []:C->C)=id:=rfl;simp[TO.aag,e]
   | row t sz els=>rfl
   | map es=>rfl
   | win t pre cs post =>
    have e:(C.kills []:C->C)=id:=rfl;simp[TO.aag,e]
 | cons a ks=>exact rz _ _ _
theorem yL (ks:List Nat) (τ:aY) (j:Nat):fP ks τ j=(τ j).kills ks:=by cases ks<;>rfl
def Cf:TO->Bool
 | .row _ _ _=>true
 | _=>false
theorem fA:∀{Lin:List TO}{ks ko:List Nat},aW Lin ks ko=true->∀(i:Nat) o,Lin[i]?=some o->Cf o=false->∃k,ks[i]?=some k/\ko[i]?=some k
 | [],_,_,_,i,o,e,_=>by simp at e
 | .box f d::l,[],ko,h,i,o,e,_=>by cases ko<;>simp[aW] at h
 | .box f d::l,k::ks,[],h,i,o,e,_=>by simp[aW] at h
 | .box f d::l,k::ks,c::ko,h,i,o,e,a=>by
  simp only[aW] at h;split at h
  case h_2=>cases h
  rename_i b;have:=v8 b;subst this;cases i with
  | zero=>exact⟨k,by simp,by simp⟩
  | succ i=>simpa using fA h i o (by simpa using e) a
 | .map es::l,[],ko,h,i,o,e,_=>by cases ko<;>simp[aW] at h
 | .map es::l,k::ks,[],h,i,o,e,_=>by simp[aW] at h
 | .map es::l,k::ks,c::ko,h,i,o,e,a=>by
  simp only[aW] at h;split at h
  case h_2=>cases h
  rename_i b;have:=v8 b;subst this;cases i with
  | zero=>exact⟨k,by simp,by simp⟩
  | succ i=>simpa using fA h i o (by simpa using e) a
 | .win ..::l,[],ko,h,i,o,e,_=>by cases ko<;>simp[aW] at h
 | .win ..::l,k::ks,[],h,i,o,e,_=>by simp[aW] at h
 | .win ..::l,k::ks,c::ko,h,i,o,e,a=>by
  simp only[aW] at h;split at h
  case h_2=>cases h
  rename_i b;have:=v8 b;subst this;cases i with
  | zero=>exact⟨k,by simp,by simp⟩
  | succ i=>simpa using fA h i o (by simpa using e) a
 | .row ..::l,k::ks,c::ko,h,i,o,e,a=>by
  simp only[aW] at h;cases i with
  | zero =>
   simp only[aa2,w7] at e;subst e;cases a
  | succ i=>simpa using fA h i o (by simpa using e) a
 | .row ..::l,k::ks,[],h,i,o,e,a=>by
  simp only[aW] at h;cases i with
  | zero =>
   simp only[aa2,w7] at e;subst e;cases a
  | succ i =>
   obtain⟨c,m,j⟩:=fA h i o (by simpa using e) a;simp at j
 | .row ..::l,[],ko,h,i,o,e,_=>by simp[aW] at h
theorem yM {Lin:List TO}{ks ko:List Nat}(h:aW Lin ks ko=true) (i:Nat) (t:TypeId) (cs:List C) (e:Lin[i]?=some (.box t cs)):∃k,ks[i]?=some k/\ko[i]?=some k:=fA h i _ e rfl
theorem si {M:TL}{ks:List Nat}:∀{ko:List Nat},mP M ks ko=true->∀k∈ko,k∈ks\/M.get k=none
 | [],_,k,a=>by simp at a
 | k0::ko,h,k,a=>by
  simp only[mP] at h;rcases aaQ.1 a with e | e
  ·subst e;split at h
   ·rename_i b;exact .inl (dn.1 b)
   ·rename_i b c;exact .inr c
   ·cases h
  ·split at h
   ·exact si h k e
   ·exact si h k e
   ·cases h
theorem cZ {ko:List Nat}{Lo:List Own}{L:Loc}(c:ko.Nodup) (d:ko.length=Lo.length) {i k:Nat}{o:Own}(b:ko[i]?=some k) (e:Lo[i]?=some o):(L.puts ko Lo).get k=some o:=by
 rcases dR ko Lo L k c d with⟨_,a⟩ | ⟨h,f,a,_⟩
 ·exact p7 (aaS b) a
 ·have:=Ay c f b;subst this;rw[a,e]
theorem tU {k:Nat}{t sz:Nat}{els:List (List C)}(h:M.get k=some (.row t sz els)):∀{ks:List Nat},k∈ks->k∈rowsOf M ks
 | [],a=>by cases a
 | j::ks,a=>by
  simp only[rowsOf];rcases aaQ.1 a with rfl | a
  ·rw[h];simp
  ·split
   ·exact abb _ (tU h a)
   ·exact tU h a
theorem yN {ks:List Nat}{k:Nat}{o:Own}(f:dH F L M) (e:k∈ks) (h:L.get k=some o) (hb:k∈rowsOf M ks->∃g t cs,o=.box g t cs):∃g t cs,o=.box g t cs:=by
 rcases eX (f k) with⟨d,a⟩ | ⟨q,p,d,a,c⟩
 ·rw[h] at a;cases a
 ·rw[h] at a;injection a with a
  subst a;cases q with
  | row t sz els=>exact hb (tU d e)
  | box t cs =>
   cases o with
   | row=>exact c.elim
   | box g b cs'=>exact⟨g,b,cs',rfl⟩
  | map es =>
   cases o with
   | row=>exact c.elim
   | box g b cs'=>exact⟨g,b,cs',rfl⟩
  | win t pre cs post =>
   cases o with
   | row=>exact c.elim
   | box g b cs'=>exact⟨g,b,cs',rfl⟩
theorem sj {f:Nat}{args:List C}{vs:List Value}{ks ko:List Nat}{Lin:List TO}{R:List TO->C->Prop}{K:TL->aY->C->Prop}(ht:TS G F L ρ M τ) (ha:aG F L args vs)
  (h1:M.sub ks=some Lin) (h2:bP ks=true) (h3:bP ko=true) (h4:mP M ks ko=true) (h5:aW Lin ks ko=true)
  (h6:CallsT P f (args.map fun c=>c.aaj.ren (cn ks 1000)) (Lin.map (TO.aag (C.ren (cn ks 1000)))) R)
  (h7:∀v Mo,R Mo v->Wf v->(∀o∈Mo,o.Wf)->ko.length=Mo.length/\K (((M.aaf ks).kills (rowsOf M ks)).puts ko (Mo.map (TO.aag (C.ren (br ko))))) (fP (rowsOf M ks) τ) (v.ren (br ko)).slt) :
  dQ P f vs F L (fun F' L' v=>∃M' al c,TS G F' L' ρ M' al/\aT F' L' c (.v v)/\K M' al c):=by
 obtain⟨Li,e1,e2,e3⟩:=rA ht.tl h1;have hn:=dz h2;have l:=dz h3;have am:∀k,k∈ko->k∈ks\/L.get k=none:=fun k q=>(si h4 k q).imp id fun e=>cu ht.tl e;have av:=fo e1;refine⟨ks,ko,Li,iB Li R,e1,hn,l,am,h6.out F Li vs (by simp[e2]) (tT ht.tl e2 e1 e3) ?_,?_⟩
 ·exact ha.map fun c _ v hc=>(jd hc).ren (oz e1)
 ·rintro v F' Lo hF ⟨Mo,c,q1,q2,q3,q4,q5⟩;have aE:∀o∈Mo,o.Wf:=by
   intro o z;obtain⟨i,hi⟩:=abf.1 z;have d:i<Lo.length:=by rw[<-q1];exact(xD.1 hi).1
   have:=q2 (1000+i);rw[cI,bg,o6 (by omega),o6 (by omega),show 1000+i-1000=i by omega,hi,w8 d] at this;exact dG.wf this
  obtain⟨k1,k2⟩:=h7 c Mo q5 q3.wf aE;have a:ko.length=Lo.length:=by rw[k1,q1]
  have b:∀k g t cs,k∈ks->L.get k=some (.box g t cs)->∃cs',Loc.get ((L.aaf ks).puts ko Lo) k=some (.box g t cs'):=by
   intro k g t cs q hg;obtain⟨i,hi⟩:=abf.1 q;have w:Li[i]?=some (.box g t cs):=by rw[<-av.2 i k hi];exact hg
   have d:i<Lin.length:=by rw[<-e2];exact(xD.1 w).1
   have hr:=e3 i _ _ (w8 d) w;cases hL:Lin[i] with
   | row=>rw[hL] at hr;exact hr.elim
   | box t' cs' =>
    obtain⟨k',n,b2⟩:=yM h5 i t' cs' (by rw[w8 d,hL]);rw[hi] at n;injection n with n
    subst n;obtain⟨r,s⟩:=q4 i g t cs w;exact⟨r,cZ l a b2 s⟩
   | map es =>
    obtain⟨k',n,b2⟩:=fA h5 i (.map es) (by rw[w8 d,hL]) rfl;rw[hi] at n;injection n with n
    subst n;obtain⟨r,s⟩:=q4 i g t cs w;exact⟨r,cZ l a b2 s⟩
   | win t0 p0 c0 q0 =>
    obtain⟨k',n,b2⟩:=fA h5 i (.win t0 p0 c0 q0) (by rw[w8 d,hL]) rfl;rw[hi] at n;injection n with n
    subst n;obtain⟨r,s⟩:=q4 i g t cs w;exact⟨r,cZ l a b2 s⟩
  refine⟨a,b,?_⟩;generalize y:(L.aaf ks).puts ko Lo=L' at b
  -- what was there before
  have ad:∀k,k∉ks->∀o,L.get k=some o->L'.get k=some o:=by
   intro k q o z;rw[<-y];rcases dR ko Lo (L.aaf ks) k l a with⟨x,a2⟩ | ⟨i,x,a2,a3⟩
   ·rw[x,gk,vv q];exact z
   ·rcases am k (aaS x) with e | e
    ·exact p7 e q
    ·rw[z] at e;cases e
  have aa:Ext (nR (rowsOf M ks) L) L':=by
   intro k o z;obtain⟨g1,g2⟩:=ql z
   by_cases q:k∈ks
   ·obtain⟨g,t,cs,rfl⟩:=yN ht.tl q g1 g2;obtain⟨cs',h⟩:=b k g t cs q g1;exact⟨_,h,rfl,rfl⟩
   ·exact⟨o,ad k q o g1,Own.aah o⟩
  have u:∀j m,br ko j=some m->∀o,(inp Lo).get j=some o->L'.get m=some o:=by
   intro j m hj o z;obtain⟨x,a2⟩:=nj hj;rw[bg,o6 x] at z;rw[<-y];exact cZ l a a2 z
  refine⟨_,_,_,⟨fun k=>?_,fun j=>?_,fun k g t e=>?_,ht.glob.mono hF⟩,kM (q3.ren u),k2⟩
  ·rcases ni ko (Mo.map (TO.aag (C.ren (br ko)))) ((M.aaf ks).kills (rowsOf M ks)) k l (by simp[k1]) with⟨x,a2⟩ | ⟨i,x,a2,a3⟩
   ·have ag:L'.get k=(L.aaf ks).get k:=by
     rw[<-y];rcases dR ko Lo (L.aaf ks) k l a with⟨n,_⟩ | ⟨i,n,_,_⟩
     ·exact n
     ·exact p7 (aaS n) a2
    rw[x,ag,yK,pH,gk];split
    ·trivial
    ·rcases eX (ht.tl k) with⟨c1,c2⟩ | ⟨o,p,c1,c2,hr⟩
     ·rw[c1,c2];trivial
     ·rw[c1,c2];exact(hr.kills (rowsOf M ks)).ext hF aa
   ·rw[a2,abt];have d:i<Mo.length:=by simpa using a3
    have ac:i<Lo.length:=by omega
    have ag:L'.get k=some (Lo[i]):=by rw[<-y];exact cZ l a x (w8 ac)
    rw[ag,w8 d];have:=q2 (1000+i);rw[cI,bg,o6 (by omega),o6 (by omega),show 1000+i-1000=i by omega,w8 d,w8 ac] at this;exact dG.ren u this
  ·rw[yL];exact((ht.env j).kills (rowsOf M ks)).ext hF aa
  ·obtain⟨cs,h⟩:=ht.kp k g t e
   by_cases q:k∈ks
   ·exact b k g t cs q h
   ·exact⟨cs,ad k q _ h⟩
theorem vH {f:Nat}{args:List C}{vs:List Value}{ks:List Nat}{Lin:List TO}{R:List TO->C->Prop}{K:TL->aY->C->Prop}(ht:TS G F L ρ M τ) (ha:aG F L args vs)
  (h1:M.sub ks=some Lin) (h2:bP ks=true) (h6:xh P f (args.map fun c=>c.aaj.ren (cn ks 1000)) (Lin.map (TO.aag (C.ren (cn ks 1000)))) R)
  (h7:∀v Mo,R Mo v->Wf v->(∀o∈Mo,o.Wf)->ks.length=Mo.length/\K ((M.aaf ks).puts ks (Mo.map (TO.aag (C.ren (br ks))))) τ (v.ren (br ks)).slt) :
  dQ P f vs F L (fun F' L' v=>∃M' ae c,TS G F' L' ρ M' ae/\aT F' L' c (.v v)/\K M' ae c):=by
 obtain⟨Li,e1,e2,e3⟩:=rA ht.tl h1;have u:=dz h2;have ad:=fo e1;refine⟨ks,ks,Li,_,e1,u,u,fun k d=>.inl d,h6.out F Li vs (by simp[e2]) (tT ht.tl e2 e1 e3) ?_,?_⟩
 ·exact ha.map fun c _ v hc=>(jd hc).ren (oz e1)
 ·rintro v F' Lo hF ⟨⟨Mo,c,q1,q2,q3,q4,q5⟩,bi,ay⟩;have aw:∀o∈Mo,o.Wf:=by
   intro o s;obtain⟨i,hi⟩:=abf.1 s;have q:i<Lo.length:=by rw[<-q1];exact(xD.1 hi).1
   have:=q2 (1000+i);rw[cI,bg,o6 (by omega),o6 (by omega),show 1000+i-1000=i by omega,hi,w8 q] at this;exact dG.wf this
  obtain⟨k1,k2⟩:=h7 c Mo q5 q3.wf aw;have a:ks.length=Lo.length:=by rw[k1,q1]
  have b:∀k g t cs,k∈ks->L.get k=some (.box g t cs)->∃cs',Loc.get ((L.aaf ks).puts ks Lo) k=some (.box g t cs'):=by
   intro k g t cs d hg;obtain⟨i,hi⟩:=abf.1 d;have ab:Li[i]?=some (.box g t cs):=by rw[<-ad.2 i k hi];exact hg
   obtain⟨ap,ar⟩:=q4 i g t cs ab;exact⟨ap,cZ u a hi ar⟩
  refine⟨a,b,?_⟩;generalize l:(L.aaf ks).puts ks Lo=L' at b;have y:∀k,k∉ks->∀o,L.get k=some o->L'.get k=some o:=by
   intro k d o s;rw[<-l];rcases dR ks Lo (L.aaf ks) k u a with⟨r,z⟩ | ⟨i,r,z,a3⟩
   ·rw[r,gk,vv d];exact s
   ·exact p7 (aaS r) d
  have w:Ext L L':=by
   intro k o s
   by_cases d:k∈ks
   ·obtain⟨i,hi⟩:=abf.1 d;have ab:Li[i]?=some o:=by rw[<-ad.2 i k hi];exact s
    obtain⟨o',h1,h2⟩:=ay i o ab;exact⟨o',by rw[<-l];exact cZ u a hi h1,h2⟩
   ·exact⟨o,y k d o s,Own.aah o⟩
  have n:∀j m,br ks j=some m->∀o,(inp Lo).get j=some o->L'.get m=some o:=by
   intro j m hj o s;obtain⟨r,z⟩:=nj hj;rw[bg,o6 r] at s;rw[<-l];exact cZ u a z s
  refine⟨_,_,_,⟨fun k=>?_,fun j=>(ht.env j).ext hF w,fun k g t e=>?_,ht.glob.mono hF⟩,kM (q3.ren n),k2⟩
  ·rcases ni ks (Mo.map (TO.aag (C.ren (br ks)))) (M.aaf ks) k u (by simp[k1]) with⟨r,z⟩ | ⟨i,r,z,a3⟩
   ·have aa:L'.get k=(L.aaf ks).get k:=by
     rw[<-l];rcases dR ks Lo (L.aaf ks) k u a with⟨b1,_⟩ | ⟨i,b1,_,_⟩
     ·exact b1
     ·exact p7 (aaS b1) z
    rw[r,aa,pH,gk];split
    ·trivial
    ·rcases eX (ht.tl k) with⟨c1,c2⟩ | ⟨o,p,c1,c2,hr⟩
     ·rw[c1,c2];trivial
     ·rw[c1,c2];exact hr.ext hF w
   ·rw[z,abt];have q:i<Mo.length:=by simpa using a3
    have x:i<Lo.length:=by omega
    have aa:L'.get k=some (Lo[i]):=by rw[<-l];exact cZ u a r (w8 x)
    rw[aa,w8 q];have:=q2 (1000+i);rw[cI,bg,o6 (by omega),o6 (by omega),show 1000+i-1000=i by omega,w8 q,w8 x] at this;exact dG.ren n this
  ·obtain⟨cs,h⟩:=ht.kp k g t e
   by_cases d:k∈ks
   ·exact b k g t cs d h
   ·exact⟨cs,y k d _ h⟩
theorem sn {ks:List Nat}:∀{ko:List Nat},(∀k∈ko,k∈ks)->mP M ks ko=true
 | [],_=>rfl
 | k::ko,h=>by
  simp only[mP,dn.2 (h k (by simp))];exact sn fun j a=>h j (by simp[a])
def VN (hb:List (Nat×Nat)) (L:Loc):Prop:=∀k n,(k,n)∈hb->∃g t cs,L.get k=some (.box g t cs)/\cs.length=n
def Kb (F':aF) (L':Loc) (M':TL):Prop:=∀k o,M'.get k=some o->∃p,L'.get k=some p/\dG F' L' o p
theorem AW {F':aF}{L':Loc}{M':TL}(h:dH F' L' M'):Kb F' L' M':=fun k o e=>by
 rcases eX (h k) with⟨a,b⟩ | ⟨o',p,a,b,c⟩
 ·rw[e] at a;cases a
 ·rw[e] at a;injection a with a
  subst a;exact⟨p,b,c⟩
def Kc (PS:qJ) (F':aF) (L':Loc) (v:Value):Prop:=∀s,PS.st=some s->∃M',Kb F' L' M'/\s M' v
theorem Kc.no {PS:qJ}(h:PS.st=none) {F':aF}{L':Loc}{v:Value}:Kc PS F' L' v:=fun s e=>by rw[h] at e;cases e
def zK (G:Nat->Option (Nat×TypeId)) (PS:qJ) (F':aF) (L':Loc) (v:Value):Prop:=Kp G L'/\PS.ps v/\VN PS.hb L'/\Kc PS F' L' v
theorem Dw:∀{hb:List (Nat×Nat)}{ks:List Nat},mF M ks hb=true->∀k n,(k,n)∈hb->k∉ks/\∃t cs,M.get k=some (.box t cs)/\cs.length=n
 | [],ks,_,k,n,h=>by cases h
 | (j,m)::l,ks,h,k,n,a=>by
  simp only[mF] at h;split at h
  case h_2=>cases h
  rename_i t cs b d;split at h
  case h_2=>cases h
  rename_i c;rcases aaQ.1 a with e | a
  ·simp only[Prod.mk.injEq] at e;obtain⟨rfl,rfl⟩:=e;exact⟨fun f=>(by rw[dn.2 f] at b;cases b),t,cs,d,bJ c⟩
  ·exact Dw h k n a
theorem Ke {hb:List (Nat×Nat)}{ks:List Nat}{L':Loc}(j:dH F L M) (h:mF M ks hb=true) (e:∀k g t cs,k∉ks->L.get k=some (.box g t cs)->L'.get k=some (.box g t cs)):VN hb L':=by
 intro k n b;obtain⟨c,t,cs,a,l⟩:=Dw h k n b;obtain⟨g,ty,vs,d,f,_⟩:=lq j a;exact⟨g,ty,vs,e k g ty vs c d,by rw[f.len,l]⟩
theorem xu {ks ko:List Nat}{Lin:List TO}{Li:List Own}{R:List TO->C->Prop}{K:TL->aY->C->Prop}(ht:TS G F L ρ M τ)
  (h2:bP ks=true) (h3:bP ko=true) (h4:mP M ks ko=true) (h5:aW Lin ks ko=true) (e1:L.sub ks=some Li) (e2:Li.length=Lin.length) (e3:∀(i:Nat) o p,Lin[i]?=some o->Li[i]?=some p->dG F L o p)
  (h7:∀v Mo,R Mo v->Wf v->(∀o∈Mo,o.Wf)->ko.length=Mo.length/\K (((M.aaf ks).kills (rowsOf M ks)).puts ko (Mo.map (TO.aag (C.ren (br ko))))) (fP (rowsOf M ks) τ) (v.ren (br ko)).slt) :
  ∀v F' Lo,F.le F'->iB Li R F' Lo v->ko.length=Lo.length/\(∀k g t cs,k∈ks->L.get k=some (.box g t cs)->∃cs',Loc.get ((L.aaf ks).puts ko Lo) k=some (.box g t cs')) /\
   ∃M' ag c,TS G F' ((L.aaf ks).puts ko Lo) ρ M' ag/\aT F' ((L.aaf ks).puts ko Lo) c (.v v)/\K M' ag c:=by
 have hn:=dz h2;have l:=dz h3;have av:∀k,k∈ko->k∈ks\/L.get k=none:=fun k n=>(si h4 k n).imp id fun e=>cu ht.tl e;have ao:=fo e1;rintro v F' Lo hF ⟨Mo,c,q1,q2,q3,q4,q5⟩;have ax:∀o∈Mo,o.Wf:=by
  intro o y;obtain⟨i,hi⟩:=abf.1 y;have d:i<Lo.length:=by rw[<-q1];exact(xD.1 hi).1
  have:=q2 (1000+i);rw[cI,bg,o6 (by omega),o6 (by omega),show 1000+i-1000=i by omega,hi,w8 d] at this;exact dG.wf this
 obtain⟨k1,k2⟩:=h7 c Mo q5 q3.wf ax;have a:ko.length=Lo.length:=by rw[k1,q1]
 have b:∀k g t cs,k∈ks->L.get k=some (.box g t cs)->∃cs',Loc.get ((L.aaf ks).puts ko Lo) k=some (.box g t cs'):=by
  intro k g t cs n hg;obtain⟨i,hi⟩:=abf.1 n;have u:Li[i]?=some (.box g t cs):=by rw[<-ao.2 i k hi];exact hg
  have d:i<Lin.length:=by rw[<-e2];exact(xD.1 u).1
  have hr:=e3 i _ _ (w8 d) u;cases hL:Lin[i] with
  | row=>rw[hL] at hr;exact hr.elim
  | box t' cs' =>
   obtain⟨k',f,b2⟩:=yM h5 i t' cs' (by rw[w8 d,hL]);rw[hi] at f;injection f with f
   subst f;obtain⟨q,r⟩:=q4 i g t cs u;exact⟨q,cZ l a b2 r⟩
  | map es =>
   obtain⟨k',f,b2⟩:=fA h5 i (.map es) (by rw[w8 d,hL]) rfl;rw[hi] at f;injection f with f
   subst f;obtain⟨q,r⟩:=q4 i g t cs u;exact⟨q,cZ l a b2 r⟩
  | win t0 p0 c0 q0 =>
   obtain⟨k',f,b2⟩:=fA h5 i (.win t0 p0 c0 q0) (by rw[w8 d,hL]) rfl;rw[hi] at f;injection f with f
   subst f;obtain⟨q,r⟩:=q4 i g t cs u;exact⟨q,cZ l a b2 r⟩
 refine⟨a,b,?_⟩;generalize x:(L.aaf ks).puts ko Lo=L' at b
 -- what was there before
 have ab:∀k,k∉ks->∀o,L.get k=some o->L'.get k=some o:=by
  intro k n o y;rw[<-x];rcases dR ko Lo (L.aaf ks) k l a with⟨w,a2⟩ | ⟨i,w,a2,a3⟩
  ·rw[w,gk,vv n];exact y
  ·rcases av k (aaS w) with e | e
   ·exact p7 e n
   ·rw[y] at e;cases e
 have z:Ext (nR (rowsOf M ks) L) L':=by
  intro k o y;obtain⟨g1,g2⟩:=ql y
  by_cases n:k∈ks
  ·obtain⟨g,t,cs,rfl⟩:=yN ht.tl n g1 g2;obtain⟨cs',h⟩:=b k g t cs n g1;exact⟨_,h,rfl,rfl⟩
  ·exact⟨o,ab k n o g1,Own.aah o⟩
 have s:∀j m,br ko j=some m->∀o,(inp Lo).get j=some o->L'.get m=some o:=by
  intro j m hj o y;obtain⟨w,a2⟩:=nj hj;rw[bg,o6 w] at y;rw[<-x];exact cZ l a a2 y
 refine⟨_,_,_,⟨fun k=>?_,fun j=>?_,fun k g t e=>?_,ht.glob.mono hF⟩,kM (q3.ren s),k2⟩
 ·rcases ni ko (Mo.map (TO.aag (C.ren (br ko)))) ((M.aaf ks).kills (rowsOf M ks)) k l (by simp[k1]) with⟨w,a2⟩ | ⟨i,w,a2,a3⟩
  ·have ad:L'.get k=(L.aaf ks).get k:=by
    rw[<-x];rcases dR ko Lo (L.aaf ks) k l a with⟨f,_⟩ | ⟨i,f,_,_⟩
    ·exact f
    ·exact p7 (aaS f) a2
   rw[w,ad,yK,pH,gk];split
   ·trivial
   ·rcases eX (ht.tl k) with⟨c1,c2⟩ | ⟨o,p,c1,c2,hr⟩
    ·rw[c1,c2];trivial
    ·rw[c1,c2];exact(hr.kills (rowsOf M ks)).ext hF z
  ·rw[a2,abt];have d:i<Mo.length:=by simpa using a3
   have aa:i<Lo.length:=by omega
   have ad:L'.get k=some (Lo[i]):=by rw[<-x];exact cZ l a w (w8 aa)
   rw[ad,w8 d];have:=q2 (1000+i);rw[cI,bg,o6 (by omega),o6 (by omega),show 1000+i-1000=i by omega,w8 d,w8 aa] at this;exact dG.ren s this
 ·rw[yL];exact((ht.env j).kills (rowsOf M ks)).ext hF z
 ·obtain⟨cs,h⟩:=ht.kp k g t e
  by_cases n:k∈ks
  ·exact b k g t cs n h
  ·exact⟨cs,ab k n _ h⟩
theorem yO {PS:qJ}{Pp:Value->Prop}{f:Nat}{args:List C}{vs:List Value}{ks ko:List Nat}{Lin:List TO}{R:List TO->C->Prop}{K:TL->aY->C->Prop}(a:TS G F L ρ M τ) (ha:aG F L args vs)
  (h1:M.sub ks=some Lin) (w:bP ks=true) (y:bP ko=true) (z:mP M ks ko=true) (h5:aW Lin ks ko=true) (s:mF M ks PS.hb=true)
  (h6:CallsTX P f (args.map fun c=>c.aaj.ren (cn ks 1000)) (Lin.map (TO.aag (C.ren (cn ks 1000)))) R Pp) (l:∀v,Pp v->PS.ps v) (u:PS.st=none)
  (h7:∀v Mo,R Mo v->Wf v->(∀o∈Mo,o.Wf)->ko.length=Mo.length/\K (((M.aaf ks).kills (rowsOf M ks)).puts ko (Mo.map (TO.aag (C.ren (br ko))))) (fP (rowsOf M ks) τ) (v.ren (br ko)).slt) :
  ∃Li,L.sub ks=some Li/\ks.Nodup/\ko.Nodup/\(∀k,k∈ko->k∈ks\/L.get k=none)/\ve P f vs.toArray F Li (iB Li R) Pp/\(∀v F' L',yh ks L L'->Pp v->zK G PS F' L' v) /\
  ∀v F' Lo,F.le F'->iB Li R F' Lo v->ko.length=Lo.length/\(∀k g t cs,k∈ks->L.get k=some (.box g t cs)->∃cs',Loc.get ((L.aaf ks).puts ko Lo) k=some (.box g t cs')) /\
   ∃M' d c,TS G F' ((L.aaf ks).puts ko Lo) ρ M' d/\aT F' ((L.aaf ks).puts ko Lo) c (.v v)/\K M' d c:=by
 obtain⟨Li,b,n,x⟩:=rA a.tl h1;have hn:=dz w;have m:=dz y;have p:∀k,k∈ko->k∈ks\/L.get k=none:=fun k r=>(si z k r).imp id fun e=>cu a.tl e;have ag:=fo b;refine⟨Li,b,hn,m,p,h6.out F Li vs (by simp[n]) (tT a.tl n b x) ?_,fun v F' L' j hv=>⟨fun k g t e=>let⟨cs,h⟩:=a.kp k g t e;let⟨cs',h',_⟩:=j k g t cs h;⟨cs',h'⟩,l v hv,Ke a.tl s fun k g t cs r e=>let⟨cs',h',q⟩:=j k g t cs e;by rw[h',q r],Kc.no u⟩,?_⟩
 ·exact ha.map fun c _ v hc=>(jd hc).ren (oz b)
 ·exact xu a w y z h5 b n x h7
theorem AX {PS:qJ}{Pp:Value->Prop}{f:Nat}{args:List C}{vs:List Value}{ks ko:List Nat}{Lin:List TO}{R:List TO->C->Prop}{K:TL->aY->C->Prop}(s:TS G F L ρ M τ) (w:aG F L args vs)
  (n:M.sub ks=some Lin) (j:bP ks=true) (t:bP ko=true) (x:mP M ks ko=true) (y:aW Lin ks ko=true) (d:mF M ks PS.hb=true)
  (l:CallsTX P f (args.map fun c=>c.aaj.ren (cn ks 1000)) (Lin.map (TO.aag (C.ren (cn ks 1000)))) R Pp) (b:∀v,Pp v->PS.ps v) (e:PS.st=none)
  (m:∀v Mo,R Mo v->Wf v->(∀o∈Mo,o.Wf)->ko.length=Mo.length/\K (((M.aaf ks).kills (rowsOf M ks)).puts ko (Mo.map (TO.aag (C.ren (br ko))))) (fP (rowsOf M ks) τ) (v.ren (br ko)).slt) :
  fM P (zK G PS) f vs F L (fun F' L' v=>∃M' a c,TS G F' L' ρ M' a/\aT F' L' c (.v v)/\K M' a c):=by
 obtain⟨Li,u,r,q3,h,k,z,p⟩:=yO s w n j t x y d l b e m;exact⟨ks,ko,Li,iB Li R,fun _ _=>Pp,u,r,q3,h,k.toS,fun v F' Lo _ _ hb q=>z v F' _ hb q,p⟩
theorem js:∀{Lin:List TO}{ks ko:List Nat},aW Lin ks ko=true->aW Lin ks ks=true
 | [],ks,ko,h=>by simp only[aW]
 | .box t cs::l,[],ko,h=>by simp only[aW] at h;cases h
 | .map es::l,[],ko,h=>by simp only[aW] at h;cases h
 | .win ..::l,[],ko,h=>by simp only[aW] at h;cases h
 | .row t sz els::l,[],ko,h=>by simp only[aW] at h;cases h
 | .box t cs::l,k::ks,[],h=>by simp only[aW] at h;cases h
 | .map es::l,k::ks,[],h=>by simp only[aW] at h;cases h
 | .win ..::l,k::ks,[],h=>by simp only[aW] at h;cases h
 | .box t cs::l,k::ks,a::ko,h=>by
  have e:Nat.beq k k=true:=by simp
  simp only[aW] at h ⊢;split at h
  ·rw[e];exact js h
  ·cases h
 | .map es::l,k::ks,a::ko,h=>by
  have e:Nat.beq k k=true:=by simp
  simp only[aW] at h ⊢;split at h
  ·rw[e];exact js h
  ·cases h
 | .win ..::l,k::ks,a::ko,h=>by
  have e:Nat.beq k k=true:=by simp
  simp only[aW] at h ⊢;split at h
  ·rw[e];exact js h
  ·cases h
 | .row t sz els::l,k::ks,[],h=>by
  simp only[aW] at h ⊢;exact js h
 | .row t sz els::l,k::ks,a::ko,h=>by
  simp only[aW] at h ⊢;exact js h
theorem E9 {PS:qJ}{Pp:Value->Prop}{f:Nat}{args:List C}{vs:List Value}{ks:List Nat}{Lin:List TO}{R:List TO->C->Prop}{K:TL->aY->C->Prop}(y:TS G F L ρ M τ) (ha:aG F L args vs)
  (h1:M.sub ks=some Lin) (h2:bP ks=true) (h6:lV P f (args.map fun c=>c.aaj.ren (cn ks 1000)) (Lin.map (TO.aag (C.ren (cn ks 1000)))) R Pp) (an:∀v,Pp v->PS.ps v) (bb:PS.st=none) (aE:mF M ks PS.hb=true)
  (h7:∀v Mo,R Mo v->Wf v->(∀o∈Mo,o.Wf)->ks.length=Mo.length/\K ((M.aaf ks).puts ks (Mo.map (TO.aag (C.ren (br ks))))) τ (v.ren (br ks)).slt) :
  fM P (zK G PS) f vs F L (fun F' L' v=>∃M' ag c,TS G F' L' ρ M' ag/\aT F' L' c (.v v)/\K M' ag c):=by
 obtain⟨Li,e1,e2,e3⟩:=rA y.tl h1;have w:=dz h2;have ae:=fo e1;refine⟨ks,ks,Li,_,fun _ _=>Pp,e1,w,w,fun k d=>.inl d,(h6.out F Li vs (by simp[e2]) (tT y.tl e2 e1 e3) ?_).toS,fun v F' Lo _ _ al hv=>⟨fun k g t e=>let⟨cs,h⟩:=y.kp k g t e;let⟨cs',h',_⟩:=al k g t cs h;⟨cs',h'⟩,an v hv,Ke y.tl aE fun k g t cs d e=>let⟨cs',h',q⟩:=al k g t cs e;by rw[h',q d],Kc.no bb⟩,?_⟩
 ·exact ha.map fun c _ v hc=>(jd hc).ren (oz e1)
 ·rintro v F' Lo hF ⟨⟨Mo,c,q1,q2,q3,q4,q5⟩,bo,bc⟩;have az:∀o∈Mo,o.Wf:=by
   intro o u;obtain⟨i,hi⟩:=abf.1 u;have r:i<Lo.length:=by rw[<-q1];exact(xD.1 hi).1
   have:=q2 (1000+i);rw[cI,bg,o6 (by omega),o6 (by omega),show 1000+i-1000=i by omega,hi,w8 r] at this;exact dG.wf this
  obtain⟨k1,k2⟩:=h7 c Mo q5 q3.wf az;have a:ks.length=Lo.length:=by rw[k1,q1]
  have b:∀k g t cs,k∈ks->L.get k=some (.box g t cs)->∃cs',Loc.get ((L.aaf ks).puts ks Lo) k=some (.box g t cs'):=by
   intro k g t cs d hg;obtain⟨i,hi⟩:=abf.1 d;have ad:Li[i]?=some (.box g t cs):=by rw[<-ae.2 i k hi];exact hg
   obtain⟨aw,ax⟩:=q4 i g t cs ad;exact⟨aw,cZ w a hi ax⟩
  refine⟨a,b,?_⟩;generalize l:(L.aaf ks).puts ks Lo=L' at b;have aa:∀k,k∉ks->∀o,L.get k=some o->L'.get k=some o:=by
   intro k d o u;rw[<-l];rcases dR ks Lo (L.aaf ks) k w a with⟨s,a2⟩ | ⟨i,s,a2,a3⟩
   ·rw[s,gk,vv d];exact u
   ·exact p7 (aaS s) d
  have x:Ext L L':=by
   intro k o u
   by_cases d:k∈ks
   ·obtain⟨i,hi⟩:=abf.1 d;have ad:Li[i]?=some o:=by rw[<-ae.2 i k hi];exact u
    obtain⟨o',h1,h2⟩:=bc i o ad;exact⟨o',by rw[<-l];exact cZ w a hi h1,h2⟩
   ·exact⟨o,aa k d o u,Own.aah o⟩
  have n:∀j m,br ks j=some m->∀o,(inp Lo).get j=some o->L'.get m=some o:=by
   intro j m hj o u;obtain⟨s,a2⟩:=nj hj;rw[bg,o6 s] at u;rw[<-l];exact cZ w a a2 u
  refine⟨_,_,_,⟨fun k=>?_,fun j=>(y.env j).ext hF x,fun k g t e=>?_,y.glob.mono hF⟩,kM (q3.ren n),k2⟩
  ·rcases ni ks (Mo.map (TO.aag (C.ren (br ks)))) (M.aaf ks) k w (by simp[k1]) with⟨s,a2⟩ | ⟨i,s,a2,a3⟩
   ·have ac:L'.get k=(L.aaf ks).get k:=by
     rw[<-l];rcases dR ks Lo (L.aaf ks) k w a with⟨b1,_⟩ | ⟨i,b1,_,_⟩
     ·exact b1
     ·exact p7 (aaS b1) a2
    rw[s,ac,pH,gk];split
    ·trivial
    ·rcases eX (y.tl k) with⟨c1,c2⟩ | ⟨o,p,c1,c2,hr⟩
     ·rw[c1,c2];trivial
     ·rw[c1,c2];exact hr.ext hF x
   ·rw[a2,abt];have r:i<Mo.length:=by simpa using a3
    have z:i<Lo.length:=by omega
    have ac:L'.get k=some (Lo[i]):=by rw[<-l];exact cZ w a s (w8 z)
    rw[ac,w8 r];have:=q2 (1000+i);rw[cI,bg,o6 (by omega),o6 (by omega),show 1000+i-1000=i by omega,w8 r,w8 z] at this;exact dG.ren n this
  ·obtain⟨cs,h⟩:=y.kp k g t e
   by_cases d:k∈ks
   ·exact b k g t cs d h
   ·exact⟨cs,aa k d _ h⟩
theorem AY {ps:Value->Prop}{hb:List (Nat×Nat)}{st:TL->Value->Prop}{PS:qJ}{Pp:List TO->Value->Prop}{f:Nat}{args:List C}{vs:List Value}{ks ko:List Nat}{Lin:List TO}{R:List TO->C->Prop}{K:TL->aY->C->Prop}(m:TS G F L ρ M τ) (ha:aG F L args vs)
  (y:PS=⟨ps,hb,some st⟩) (h1:M.sub ks=some Lin) (j:bP ks=true) (h3:bP ko=true) (h4:mP M ks ko=true) (h5:aW Lin ks ko=true) (ae:mF M ks hb=true)
  (h6:CallsTS P f (args.map fun c=>c.aaj.ren (cn ks 1000)) (Lin.map (TO.aag (C.ren (cn ks 1000)))) R Pp)
  (z:∀v Mo,Pp Mo v->(∀o∈Mo,o.Wf)->ks.length=Mo.length->ps v/\st (((M.aaf ks).kills (rowsOf M ks)).puts ks (Mo.map (TO.aag (C.ren (br ks))))) v)
  (h7:∀v Mo,R Mo v->Wf v->(∀o∈Mo,o.Wf)->ko.length=Mo.length/\K (((M.aaf ks).kills (rowsOf M ks)).puts ko (Mo.map (TO.aag (C.ren (br ko))))) (fP (rowsOf M ks) τ) (v.ren (br ko)).slt) :
  fM P (zK G PS) f vs F L (fun F' L' v=>∃M' d c,TS G F' L' ρ M' d/\aT F' L' c (.v v)/\K M' d c):=by
 subst y;obtain⟨Li,l,x,e3⟩:=rA m.tl h1;have hn:=dz j;have aa:=dz h3;have ac:∀k,k∈ko->k∈ks\/L.get k=none:=fun k r=>(si h4 k r).imp id fun e=>cu m.tl e;obtain⟨ab,am⟩:=fo l;refine⟨ks,ko,Li,iB Li R,_,l,hn,aa,ac,h6.out F Li vs (by simp[x]) (tT m.tl x l e3) (ha.map fun c _ v hc=>(jd hc).ren (oz l)),?_,xu m j h3 h4 h5 l x e3 h7⟩;rintro v F' Lo hF p u ⟨Mo,q1,q2,q3⟩;have ad:∀o∈Mo,o.Wf:=by
  intro o ho;obtain⟨i,hi⟩:=abf.1 ho;have a:i<Lo.length:=by rw[<-q1];exact(xD.1 hi).1
  have:=q2 (1000+i);rw[cI,bg,o6 (by omega),o6 (by omega),show 1000+i-1000=i by omega,hi,w8 a] at this;exact dG.wf this
 obtain⟨p1,p2⟩:=z v Mo q3 ad (by omega);have w:iB Li (fun Mo' _=>Mo'=Mo) F' Lo undef:=by
  refine⟨Mo,.any,q1,q2,by simp only[Rel],fun i g t cs e=>?_,rfl⟩;have a:i<ks.length:=by rw[<-ab];exact(xD.1 e).1
  have n:=am i _ (w8 a);rw[e] at n;obtain⟨cs',h,_⟩:=u _ g t cs n;have j:Loc.get ((L.aaf ks).puts ks Lo) ks[i]=Lo[i]?:=by
   have b:i<Lo.length:=by omega
   rw[w8 b];exact cZ hn p (w8 a) (w8 b)
  exact⟨cs',by rw[<-j];exact h⟩
 have al:aW Lin ks ks=true:=js h5;obtain⟨_,_,M',d,c,t1,_,rfl⟩:=xu (K:=fun M' _ _=>M'=((M.aaf ks).kills (rowsOf M ks)).puts ks (Mo.map (TO.aag (C.ren (br ks))))) m j j (sn fun k r=>r) al l x e3
  (fun v' Mo' e _ _=>by subst e;exact⟨by omega,rfl⟩) undef F' Lo hF w
 exact⟨t1.kp,p1,Ke m.tl ae fun k g t cs r e=>(let⟨cs',h',q⟩:=u k g t cs e;by rw[h',q r]),fun s e=>by injection e with e;subst e;exact⟨_,AW t1.tl,p2⟩⟩
theorem TS.same {L2:Loc}(a:TS G F L ρ M τ) (b:L.sameAs L2):TS G F L2 ρ M τ:=by
 have f:Ext L L2:=fun k o e=>⟨o,by rw[b k];exact e,Own.aah o⟩;refine⟨fun k=>?_,fun j=>(a.env j).ext (aF.le_refl F) f,fun k g t e=>?_,a.glob⟩
 ·rcases eX (a.tl k) with⟨d,c⟩ | ⟨o,p,d,c,l⟩
  ·rw[b k,d,c];trivial
  ·rw[b k,d,c];exact l.ext (aF.le_refl F) f
 ·obtain⟨cs,h⟩:=a.kp k g t e;exact⟨cs,by rw[b k];exact h⟩
theorem yP:∀{ks a:List Nat},yD ks a=true->∀k∈ks,k∉a
 | [],a,_,k,h=>by cases h
 | j::ks,a,h,k,b=>by
  simp only[yD] at h;split at h
  ·cases h
  ·rename_i c;rcases aaQ.1 b with rfl | b
   ·intro d;rw[dn.2 d] at c;cases c
   ·exact yP h k b
theorem qm {PS:qJ}{q:List Nat}{f:Nat}{args:List C}{vs:List Value}{K:TL->aY->C->Prop}(ht:TS G F L ρ M τ) (ha:aG F L args vs) (h:ou P PS q f args M τ K) (m:PS.st=none) :
  CallXDPt P (zK G PS) q f vs F L (fun F' L' v=>∃M' b c,TS G F' L' ρ M' b/\aT F' L' c (.v v)/\K M' b c):=by
 obtain⟨ks,Lin,R,Pp,h1,n,u,h5,j,x,d,y⟩:=h;have h4:mP M ks ks=true:=sn (fun k hk=>hk);obtain⟨Li,q1,r,q3,q4,w,q6,q7⟩:=yO ht ha h1 n n h4 h5 j x d m y;refine⟨ks,Li,iB Li R,fun _ _=>Pp,q1,r,yP u,w.toS,fun v F' L' Lo _ _ l hp=>q6 v F' L' l hp,fun v F' Lo hF s=>?_⟩;obtain⟨p,a2,M',b,c,z,a4,a5⟩:=q7 v F' Lo hF s;have a:=m9 (L:=L) r p;refine⟨p,fun i g t cs e=>?_,fun _=>⟨M',b,c,z.same a,a4.ext (aF.le_refl F') fun k o e=>⟨o,by rw[a k];exact e,Own.aah o⟩,a5⟩⟩;obtain⟨Mo,c',_,_,_,b4,_⟩:=s;exact b4 i g t cs e
theorem rB {ps:Value->Prop}{hb:List (Nat×Nat)}{st:TL->Value->Prop}{PS:qJ}{fb:List Nat}{f:Nat}{args:List C}{vs:List Value}{K:TL->aY->C->Prop}(y:TS G F L ρ M τ) (ha:aG F L args vs) (ac:PS=⟨ps,hb,some st⟩) (h:xj P ps hb st fb f args M τ K) :
  CallXDPt P (zK G PS) fb f vs F L (fun F' L' v=>∃M' l c,TS G F' L' ρ M' l/\aT F' L' c (.v v)/\K M' l c):=by
 subst ac;obtain⟨ks,Lin,R,Pp,h1,h2,h0,h5,al,h6,aa,h7⟩:=h;have h4:mP M ks ks=true:=sn (fun k a=>a);obtain⟨Li,w,e2,e3⟩:=rA y.tl h1;have hn:=dz h2;obtain⟨bl,aE⟩:=fo w;refine⟨ks,Li,iB Li R,_,w,hn,yP h0,h6.out F Li vs (by simp[e2]) (tT y.tl e2 w e3) (ha.map fun c _ v hc=>(jd hc).ren (oz w)),?_,fun v F' Lo hF hR=>?_⟩
 ·rintro v F' L' Lo hF am x ⟨Mo,q1,q2,q3⟩;have ag:∀o∈Mo,o.Wf:=by
   intro o z;obtain⟨i,hi⟩:=abf.1 z;have d:i<Lo.length:=by rw[<-q1];exact(xD.1 hi).1
   have:=q2 (1000+i);rw[cI,bg,o6 (by omega),o6 (by omega),show 1000+i-1000=i by omega,hi,w8 d] at this;exact dG.wf this
  obtain⟨y1,y2⟩:=fo am;obtain⟨p1,p2⟩:=aa v Mo q3 ag (by omega);have r:∀j m,br ks j=some m->∀o,(inp Lo).get j=some o->L'.get m=some o:=by
   intro j m hj o z;obtain⟨n,u⟩:=nj hj;rw[bg,o6 n] at z;rw[y2 _ _ u];exact z
  refine⟨fun k g t e=>let⟨cs,h⟩:=y.kp k g t e;let⟨cs',h',_⟩:=x k g t cs h;⟨cs',h'⟩,p1,Ke y.tl al fun k g t cs a e=>(let⟨cs',h',q⟩:=x k g t cs e;by rw[h',q a]),fun s e=>?_⟩;injection e with e
  subst e;refine⟨_,fun k o a=>?_,p2⟩;rcases ni ks (Mo.map (TO.aag (C.ren (br ks)))) [] k hn (by simp;omega) with⟨n,u⟩ | ⟨i,n,u,a3⟩
  ·rw[n] at a;cases a
  ·rw[u,abt] at a;have d:i<Mo.length:=by simpa using a3
   have p:i<Lo.length:=by omega
   rw[w8 d] at a;injection a with a
   subst a;refine⟨Lo[i],by rw[y2 _ _ n];exact w8 p,?_⟩;have:=q2 (1000+i);rw[cI,bg,o6 (by omega),o6 (by omega),show 1000+i-1000=i by omega,w8 d,w8 p] at this;exact dG.ren r this
 ·obtain⟨n,u,M',l,c,a3,a4,a5⟩:=xu y h2 h2 h4 h5 w e2 e3 h7 v F' Lo hF hR;have b:=m9 (L:=L) hn n;refine⟨n,fun i g t cs e=>?_,fun _=>⟨M',l,c,a3.same b,a4.ext (aF.le_refl F') fun k o e=>⟨o,by rw[b k];exact e,Own.aah o⟩,a5⟩⟩;obtain⟨Mo,c',_,_,_,b4,_⟩:=hR;exact b4 i g t cs e
end
section
variable {P:Program}{G:Nat->Option (Nat×TypeId)}{F:aF}{L:Loc}{ρ:Env}{M:TL}{τ:aY}{a:Act}{w:World}
theorem Dx {F':aF}(m:F.le F') {k:Nat}{a:Option Addr}{c:Nat}{t sz:Nat}{els:List (List C)}{xs:List Value}(r:L.get k=some (.row (.slice a els.length c) t sz els.length xs))
  (s:Rel F' (L.del k) (.sl els) (.slice a els.length c)):(∀d v,C.leaf d=true->Rel F L d v->Rel F' (L.del k) (oq k els d) v)/\(∀d sv,C.leaf d=true->aT F L d sv->aT F' (L.del k) (oq k els d) sv):=by
 have l:∀j,j≠k->∀o,L.get j=some o->∃o',(L.del k).get j=some o'/\Own.like o o':=fun j f o z=>⟨o,by rw[Loc.aai,vv f];exact z,Own.aah o⟩;have b:∀g t cs,L.get k≠some (.box g t cs):=fun g t cs h=>by rw[r] at h;injection h with h;cases h
 constructor
 ·intro d v p h;cases d<;>simp only[C.leaf,aaZ] at p
  case rw j =>
   simp only[oq];cases f:Nat.beq j k with
   | true =>
    have:=v8 f;subst this;simp only[Rel] at h;obtain⟨y,x,u,q,n',n,rfl,h⟩:=h;rw[r] at h;injection h with h
    injection h with q1 q2 q3 q4 q5
    rw[<-q1];exact s
   | false =>
    have:=lz b l m (.rw j) v rfl h;simpa only[ic,f] using this
  all_goals
   have:=lz b l m _ v rfl h;simpa only[ic,oq] using this
 ·intro d sv p h;cases d<;>simp only[C.leaf,aaZ] at p
  case rw j =>
   simp only[oq];cases f:Nat.beq j k with
   | true =>
    have:=v8 f;subst this;simp only[aT,Rel] at h;obtain⟨v,e,y,x,u,q,n',n,rfl,h⟩:=h;rw[r] at h;injection h with h
    injection h with q1 q2 q3 q4 q5
    rw[<-q1] at e;exact⟨_,e,s⟩
   | false =>
    have:=qi b l m (.rw j) sv rfl h;simpa only[ic,f] using this
  all_goals
   have:=qi b l m _ sv rfl h;simpa only[ic,oq] using this
theorem dG.frz {F':aF}(b:F.le F') {k:Nat}{els:List (List C)}(j:∀d v,C.leaf d=true->Rel F L d v->Rel F' (L.del k) (oq k els d) v):∀{o:TO}{p:Own},dG F L o p->dG F' (L.del k) (o.aag (C.frz k els)) p
 | .box t cs,.box g f vs,r=>⟨r.1,r.2.map fun c _ v h=>Rel.mp j 3 h⟩
 | .row t sz els,.row v f q n xs,r=>⟨r.1,r.2.1,r.2.2.1,r.2.2.2.1,r.2.2.2.2.mono b⟩
 | .box _ _,.row ..,r=>r.elim
 | .row ..,.box ..,r=>r.elim
 | .map _,.row ..,r=>r.elim
 | .map es,.box g f vs,r=>⟨r.1,r.2.mono b⟩
 | .win ..,.row ..,r=>r.elim
 | .win ..,.box ..,⟨u,v1,s,v3,e,m,l,x⟩=>⟨u,v1,s,v3,e,m.mono b,l.map fun c _ v h=>Rel.mp j 3 h,x.mono b⟩
theorem tV {k:Nat}{t sz:Nat}{els:List (List C)}(hs:St F L w) (he:aJ L ρ a) (m:TS G F L ρ M τ) (hk:M.get k=some (.row t sz els)) :
  ∃F' L',St F' L' w/\aJ L' ρ a/\Step F L w F' L' w/\TS G F' L' ρ ((M.del k).aag (C.frz k els)) (fun j=>(τ j).frz k els)/\(∀{c v},Rel F L c v->Rel F' L' (c.frz k els) v):=by
 obtain⟨v,xs,s,⟨hm,u,cv,rfl,x⟩,hr⟩:=lu m.tl hk;obtain⟨F',L',g1,g2,g3,l,d,rfl⟩:=pq (KK:=fun F' L'=>F.le F'/\Je F' (.slice u els.length cv) sz els.length xs/\L'=L.del k) hs he ⟨_,_,_,_,_,s,fun F' l d=>⟨l,d,rfl⟩⟩;have n:Rel F' (L.del k) (.sl els) (.slice u els.length cv):=by
  simp only[Rel];rcases d with⟨b,f,y⟩ | ⟨z,c2,b,f,y⟩
  ·injection b with q1 q2 q3
   have:els=[]:=List.length_eq_zero_iff.1 q2;subst this;exact⟨u,cv,rfl,by simp,by simp,fun _=>⟨rfl,q3⟩,sz,by simp only[gS]⟩
  ·injection b with q1 q2 q3
   subst q1 q3;exact⟨some z,cv,rfl,y,hm,fun e=>(by cases e),sz,(hr.mono l).frz f⟩
 obtain⟨q,l2⟩:=Dx l s n;refine⟨F',L.del k,g1,g2,g3,⟨fun j=>?_,fun j=>aT.mp q l2 3 (m.env j),fun j g t e=>?_,m.glob.mono l⟩,fun h=>Rel.mp q 3 h⟩
 ·rw[rz,TL.aai,Loc.aai];split
  ·trivial
  ·rcases eX (m.tl j) with⟨b,f⟩ | ⟨o,p,b,f,r⟩
   ·rw[b,f];trivial
   ·rw[b,f];exact r.frz l q
 ·obtain⟨cs,h⟩:=m.kp j g t e;exact⟨cs,by rw[Loc.aai,vv (by rintro rfl;rw[s] at h;injection h with h;cases h)];exact h⟩
def yQ (k g:Nat):SV->SV
 | .own b off=>match Nat.beq b k with | true=>.v (.pointer (some ⟨g,off,none⟩)) | false=>.own b off
 | .v x=>.v x
 | .el a i=>.el a i
theorem Kf {F':aF}(q:F.le F') {k g:Nat}{t:TypeId}{vs:List Value}{es:List C}(y:L.get k=some (.box g t vs)) (hg:F' g=some (.cells vs.toArray t (0,0))) (u:dZ es=true) (z:aG F' [] es vs) :
  (∀d v,C.leaf d=true->Rel F L d v->Rel F' (L.del k) (rZ k es d) v)/\(∀d sv,C.leaf d=true->aT F L d sv->aT F' (L.del k) (rZ k es d) (yQ k g sv)):=by
 have r:∀j,j≠k->∀o,L.get j=some o->∃o',(L.del k).get j=some o'/\Own.like o o':=fun j f o ho=>⟨o,by rw[Loc.aai,vv f];exact ho,Own.aah o⟩;have l:∀o,Ni F' g o o vs:=fun o=>⟨0,_,t,(0,0),hg,by omega,fun i v hi=>⟨by simpa using hi,ud _⟩⟩;constructor
 ·intro d v hc h;cases d<;>simp only[C.leaf,aaZ] at hc<;>simp only[rZ]
  case own j off =>
   cases f:Nat.beq j k with
   | true =>
    have:=v8 f;subst this;simp only[Rel] at h ⊢;obtain⟨g',t',cs,e,rfl⟩:=h;rw[y] at e;injection e with e
    injection e with e1 e2 e3
    subst e1;exact⟨_,_,vs,rfl,l off,u,z⟩
   | false=>exact bI q (fun s e=>by
     rcases e with⟨off,e⟩ | e | e | ⟨_,_,_,e⟩ | ⟨_,_,e⟩
     ·injection e with e;subst e;exact r j (gh f)
     ·cases e
     ·cases e
     ·cases e
     ·cases e) rfl h
  case ifo m ti j off =>
   cases f:Nat.beq j k with
   | true =>
    have:=v8 f;subst this;simp only[Rel] at h;obtain⟨g',t',cs,e,rfl⟩:=h;rw[y] at e;injection e with e
    injection e with e1 e2 e3
    subst e1;cases m with
    | none=>simp only[Rel];exact⟨_,rfl,_,_,vs,rfl,l off,u,z⟩
    | some nm=>simp only[Rel];exact⟨_,rfl,_,rfl,_,_,vs,rfl,l off,u,z⟩
   | false=>exact bI q (fun s e=>by
     rcases e with⟨off,e⟩ | e | e | ⟨_,_,_,e⟩ | ⟨_,_,e⟩
     ·cases e
     ·cases e
     ·cases e
     ·injection e with _ _ e;subst e;exact r j (gh f)
     ·cases e) rfl h
  case rw j =>
   refine bI q (fun s e=>?_) rfl h;rcases e with⟨off,e⟩ | e | e | ⟨_,_,_,e⟩ | ⟨_,_,e⟩
   ·cases e
   ·injection e with e
    subst e;refine r j ?_;rintro rfl;simp only[Rel] at h;obtain⟨a',c',t',ap,n',al,rfl,h⟩:=h;rw[y] at h;injection h with h
    cases h
   ·cases e
   ·cases e
   ·cases e
  case mpr j =>
   cases f:Nat.beq j k with
   | true=>simp only[Rel]
   | false=>exact bI q (fun s e=>by
     rcases e with⟨off,e⟩ | e | e | ⟨_,_,_,e⟩ | ⟨_,_,e⟩
     ·cases e
     ·cases e
     ·injection e with e;subst e;exact r j (gh f)
     ·cases e
     ·cases e) rfl h
  case ownv=>exact h.elim
  case elr j a b =>
   refine bI q (fun s e=>?_) rfl h;rcases e with⟨off,e⟩ | e | e | ⟨_,_,_,e⟩ | ⟨_,_,e⟩<;>first | cases e;done | skip
   injection e with e
   subst e;refine r j ?_;rintro rfl;simp only[Rel] at h;obtain⟨ad,t,sz,n,c,xs,_,h⟩:=h;rw[y] at h;injection h with h
   cases h
  case slo j a =>
   cases f:Nat.beq j k with
   | true=>simp only[Rel]
   | false=>exact r9 q (r j (gh f)) h
  case slp=>exact h.elim
  all_goals
   exact bI q (fun s e=>by rcases e with⟨off,e⟩ | e | e | ⟨_,_,_,e⟩ | ⟨_,_,e⟩<;>cases e) rfl h
 ·intro d sv hc h;have keep:∀{c:C},(∀j off,c≠.own j off)->c.leaf=true->c≠.any->aT F L c sv->yQ k g sv=sv:=by
   intro c an hl ag hv;cases sv with
   | v x=>rfl
   | el a i=>rfl
   | own k' off =>
    exfalso;cases c<;>simp only[C.leaf,aaZ] at hl<;>first
     | exact an _ _ rfl
     | exact ag rfl
     | (obtain⟨v,e,_⟩:=hv;cases e;done)
     | (obtain⟨b,o,j,us,e | e,_⟩:=hv
        ·cases e.1
        ·cases e)
     | (obtain⟨ad,t,sz,n,c,xs,e,_⟩:=hv;cases e;done)
     | (obtain⟨_,_,_,_,_,e,_⟩:=hv;cases e;done)
     | (obtain⟨v,e | ⟨b,o,j,e,_⟩,_⟩:=hv
        ·cases e
        ·cases e)
  cases d<;>simp only[C.leaf,aaZ] at hc<;>simp only[rZ]
  case any=>trivial
  case own j off =>
   obtain⟨rfl,g',t',cs,e⟩:=h;simp only[yQ];cases f:Nat.beq j k with
   | true =>
    have:=v8 f;subst this;exact⟨g,off,0,vs,.inl ⟨rfl,rfl⟩,l off,u,z⟩
   | false =>
    obtain⟨o',q1,q2⟩:=r j (gh f) _ e;cases o' with
    | row=>exact q2.elim
    | box g2 t2 ae=>exact⟨rfl,g2,t2,ae,q1⟩
  case ownv j off =>
   rw[keep (c:=.ownv j off) (fun _ _ e=>by cases e) rfl (fun e=>by cases e) h];cases f:Nat.beq j k with
   | true =>
    have:=v8 f;subst this;obtain⟨v,am,p⟩:=h;simp only[Rel] at p;obtain⟨g',t',cs,e,rfl⟩:=p;rw[y] at e;injection e with e
    injection e with e1 e2 e3
    subst e1;rcases am with rfl | ⟨b,o,i,rfl,e⟩
    ·exact⟨g,off,0,vs,.inl ⟨rfl,rfl⟩,l off,u,z⟩
    ·injection e with e
     injection e with e
     injection e with q1 q2 q3
     subst q1 q2;exact⟨g,o,i,vs,.inr rfl,l (o+i),u,z⟩
   | false =>
    refine dA q (fun s e=>?_) rfl h;rcases e with⟨off,e⟩ | ⟨off,e⟩ | e | ⟨a,b,e⟩ | e | ⟨_,_,_,e⟩<;>first | cases e;done | skip
    injection e with e
    subst e;exact r j (gh f)
  case ifo m ti j off =>
   rw[keep (c:=.ifo m ti j off) (fun _ _ e=>by cases e) rfl (fun e=>by cases e) h];cases f:Nat.beq j k with
   | true =>
    have:=v8 f;subst this;obtain⟨v,rfl,p⟩:=h;simp only[Rel] at p;obtain⟨g',t',cs,e,rfl⟩:=p;rw[y] at e;injection e with e
    injection e with e1 e2 e3
    subst e1;cases m with
    | none=>exact⟨_,rfl,by simp only[Rel];exact⟨_,rfl,_,_,vs,rfl,l off,u,z⟩⟩
    | some nm=>exact⟨_,rfl,by simp only[Rel];exact⟨_,rfl,_,rfl,_,_,vs,rfl,l off,u,z⟩⟩
   | false =>
    refine dA q (fun s e=>?_) rfl h;rcases e with⟨off,e⟩ | ⟨off,e⟩ | e | ⟨a,b,e⟩ | e | ⟨_,_,_,e⟩<;>first | cases e;done | skip
    injection e with _ _ e
    subst e;exact r j (gh f)
  case rw j =>
   rw[keep (c:=.rw j) (fun _ _ e=>by cases e) rfl (fun e=>by cases e) h];refine dA q (fun s e=>?_) rfl h;rcases e with⟨off,e⟩ | ⟨off,e⟩ | e | ⟨a,b,e⟩ | e | ⟨_,_,_,e⟩<;>first | cases e;done | skip
   injection e with e
   subst e;refine r j ?_;rintro rfl;obtain⟨v,_,p⟩:=h;simp only[Rel] at p;obtain⟨a',c',t',ap,n',al,rfl,h⟩:=p;rw[y] at h;injection h with h
   cases h
  case elr j a b =>
   rw[keep (c:=.elr j a b) (fun _ _ e=>by cases e) rfl (fun e=>by cases e) h];refine dA q (fun s e=>?_) rfl h;rcases e with⟨off,e⟩ | ⟨off,e⟩ | e | ⟨a,b,e⟩ | e | ⟨_,_,_,e⟩<;>first | cases e;done | skip
   injection e with e
   subst e;refine r j ?_;rintro rfl;obtain⟨ad,t,sz,n,c,xs,_,h⟩:=h;rw[y] at h;injection h with h
   cases h
  case mpr j =>
   rw[keep (c:=.mpr j) (fun _ _ e=>by cases e) rfl (fun e=>by cases e) h];cases f:Nat.beq j k with
   | true=>trivial
   | false =>
    refine dA q (fun s e=>?_) rfl h;rcases e with⟨off,e⟩ | ⟨off,e⟩ | e | ⟨a,b,e⟩ | e | ⟨_,_,_,e⟩<;>first | cases e;done | skip
    injection e with e
    subst e;exact r j (gh f)
  case slo j a =>
   rw[keep (c:=.slo j a) (fun _ _ e=>by cases e) rfl (fun e=>by cases e) h];cases f:Nat.beq j k with
   | true=>trivial
   | false=>exact uG q (r j (gh f)) h
  case slp=>trivial
  all_goals
   rw[keep (fun _ _ e=>by cases e) rfl (fun e=>by cases e) h];exact dA q (fun s e=>by rcases e with⟨off,e⟩ | ⟨off,e⟩ | e | ⟨a,b,e⟩ | e | ⟨_,_,_,e⟩<;>cases e) rfl h
theorem Kg (k g:Nat) (ρ:Env) (j:Nat):xT k g ρ j=yQ k g (ρ j):=by
 simp only[xT,yQ];cases ρ j<;>rfl
theorem Fb {k:Nat}{t:TypeId}{cs:List C}(hs:St F L w) (he:aJ L ρ a) (l:TS G F L ρ M τ) (hk:M.get k=some (.box t cs)) (y:dZ cs=true) (s:eH cs=true) (hG:G k=none) :
  ∃F' L' ρ',St F' L' w/\aJ L' ρ' a/\Step F L w F' L' w/\TS G F' L' ρ' ((M.del k).aag (C.frb k cs)) (fun j=>(τ j).frb k cs):=by
 obtain⟨g,ty,vs,hL,hr,aa⟩:=lq l.tl hk;obtain⟨F',d,hg,g1,g2,g3⟩:=tC hs he hL;rw[iN aa.2.2] at hg;obtain⟨r,l2⟩:=Kf (F:=F) d hL hg y ((eZ s hr).mono d);refine⟨F',L.del k,_,g1,g2,g3,⟨fun j=>?_,fun j=>?_,fun j g t e=>?_,l.glob.mono d⟩⟩
 ·rw[rz,TL.aai,Loc.aai];split
  ·trivial
  ·rcases eX (l.tl j) with⟨u,z⟩ | ⟨o,p,u,z,b⟩
   ·rw[u,z];trivial
   ·rw[u,z];cases o with
    | row t sz els =>
     cases p with
     | box=>exact b.elim
     | row v x an n xs=>exact⟨b.1,b.2.1,b.2.2.1,b.2.2.2.1,b.2.2.2.2.mono d⟩
    | box t cs =>
     cases p with
     | row=>exact b.elim
     | box g x us=>exact⟨b.1,b.2.map fun c _ v h=>Rel.mp r 3 h⟩
    | map es =>
     cases p with
     | row=>exact b.elim
     | box g x us=>exact⟨b.1,b.2.mono d⟩
    | win t pre cs post =>
     cases p with
     | row=>exact b.elim
     | box g x us =>
      obtain⟨r1,v1,v2,v3,e,y,s,h3⟩:=b;exact⟨r1,v1,v2,v3,e,y.mono d,s.map fun c _ v h=>Rel.mp r 3 h,h3.mono d⟩
 ·rw[Kg];have m:=l.env j;cases f:(τ j).leaf with
  | true =>
   have e:(τ j).frb k cs=rZ k cs (τ j):=xg f;simp only[e];exact l2 _ _ f m
  | false =>
   generalize ρ j=sv at m;generalize τ j=c at f m;have h':∃v,sv=.v v/\Rel F L c v:=by
    cases c<;>first | exact m | cases f
   obtain⟨v,rfl,hv⟩:=h';have q:Rel F' (L.del k) (c.frb k cs) v:=Rel.mp r 3 hv;cases c<;>first | exact⟨v,rfl,q⟩ | cases f
 ·obtain⟨cs,h⟩:=l.kp j g t e;exact⟨cs,by rw[Loc.aai,vv (by rintro rfl;rw[hG] at e;cases e)];exact h⟩
theorem qo:∀{o:List Nat}{F:aF}{L:Loc}{M:TL}{τ:aY}{args:List C}{vs:List Value}{K:TL->aY->List C->Prop},St F L w->aJ L ρ a->TS G F L ρ M τ->aG F L args vs->yw o M τ args K ->
  ∃F' L' M' e b,St F' L' w/\aJ L' ρ a/\Step F L w F' L' w/\TS G F' L' ρ M' e/\aG F' L' b vs/\K M' e b
 | [],F,L,M,τ,args,vs,K,f,l,m,n,h=>⟨F,L,M,τ,args,f,l,Step.refl _ _ _,m,n,h⟩
 | k::o,F,L,M,τ,args,vs,K,f,l,m,n,h=>by
  simp only[yw] at h;split at h
  case h_2=>exact h.elim
  rename_i t sz els z;obtain⟨F1,L1,y,g2,p,r,g5⟩:=tV f l m z;obtain⟨F2,L2,M2,j,d,k1,k2,s,q,x,k6⟩:=qo y g2 r (n.map fun c _ v u=>g5 u) h;exact⟨F2,L2,M2,j,d,k1,k2,p.trans s,q,x,k6⟩
def wq (L:Loc):TL->Loc
 | []=>[]
 | (k,o)::l=>(k,match L.get k with
  | some p=>p
  | none=>match o with
   | .row t sz _=>.row (.slice none 0 0) t sz 0 []
   | .box _ _=>.row (.slice none 0 0) 0 0 0 []
   | .map _=>.row (.slice none 0 0) 0 0 0 []
   | .win _ _ _ _=>.row (.slice none 0 0) 0 0 0 [])::wq L l
theorem kQ:∀(M1:TL) (k:Nat),(wq L M1).get k=match M1.get k with
  | some o=>some (match L.get k with | some p=>p | none=>match o with | .row t sz _=>.row (.slice none 0 0) t sz 0 [] | .box _ _=>.row (.slice none 0 0) 0 0 0 [] | .map _=>.row (.slice none 0 0) 0 0 0 [] | .win _ _ _ _=>.row (.slice none 0 0) 0 0 0 [])
  | none=>none
 | [],k=>rfl
 | (j,o)::l,k=>by
  simp only[wq,Loc.get,TL.get];cases h:Nat.beq j k with
  | true=>have:=v8 h;subst this;rfl
  | false=>exact kQ l k
theorem Dy:∀{l:TL}{M1:TL},gives M M1 l->∀{k o},l.get k=some o->(∃p,M.get k=some p/\VH M M1 p o)\/(M.get k=none/\∃t sz,o=.row t sz [])
 | [],M1,h,k,o,e=>by cases e
 | (j,p)::l,M1,h,k,o,e=>by
  simp only[gives] at h;simp only[TL.get] at e;split at e
  ·rename_i b;have:=v8 b;subst this;injection e with e
   subst e;exact h.1
  ·exact Dy h.2 e
theorem vI (c:dH F L M) {M1:TL}:∀{l:TL},gives M M1 l->L.gives (wq L l)
 | [],h=>trivial
 | (j,p)::l,h=>by
  simp only[gives] at h;refine⟨?_,vI c h.2⟩;rcases h.1 with⟨q,b,m⟩ | ⟨b,t,sz,rfl⟩
  ·rcases eX (c j) with⟨e,d⟩ | ⟨o,k,e,d,f⟩
   ·rw[e] at b;cases b
   ·simp only[d];exact .inl trivial
  ·have:=cu c b;simp only[this];exact .inr ⟨trivial,t,sz,rfl⟩
theorem rC {L':Loc}{M1:TL}(y:∀k o,M1.get k≠none->L.get k=some o->L'.get k=some o):∀(n:Nat) {c:C}{v:Value},gu M1 n c=true->Rel F L c v->Rel F L' c v:=by
 have l:∀{c:C}{v:Value},c.leaf=true->mO M1 c=true->Rel F L c v->Rel F L' c v:=by
  intro c v f b h
  by_cases p:∃k d,c=.slo k d
  ·obtain⟨k,d,rfl⟩:=p;refine r9 (aF.le_refl F) (fun o u=>⟨o,y k o ?_ u,Own.aah o⟩) h;simp only[mO] at b;intro e;rw[e] at b;cases b
  refine bI (aF.le_refl F) (fun k e o u=>⟨o,y k o ?_ u,Own.aah o⟩) f h (fun k d e=>p ⟨k,d,e⟩);rcases e with⟨off,rfl⟩ | rfl | rfl | ⟨m,t,off,rfl⟩ | ⟨j,off,rfl⟩
  ·simp only[mO] at b;intro e;rw[e] at b;cases b
  ·simp only[mO] at b;intro e;rw[e] at b;cases b
  ·simp only[mO] at b;intro e;rw[e] at b;cases b
  ·simp only[mO] at b;intro e;rw[e] at b;cases b
  ·simp only[mO,aaZ] at b
 intro n
 induction n with
 | zero =>
  intro c v b h;cases f:c.leaf
  ·cases c<;>simp only[C.leaf,Bool.true_eq_false] at f<;>simp only[gu,aaZ] at b
  ·refine l f ?_ h;cases c<;>simp only[C.leaf,aaZ] at f<;>simpa only[gu] using b
 | succ n z =>
  intro c v b h;have all:∀{cs:List C}{vs:List Value},cs.all (gu M1 n)=true->aG F L cs vs->aG F L' cs vs:=by
   intro cs vs r q;have:=q.map (g:=id) (F':=F) (L':=L') (fun c f v hv=>z (aa1.1 r c f) hv);simpa using this
  cases f:c.leaf
  ·cases c<;>simp only[C.leaf,Bool.true_eq_false] at f<;>simp only[gu,yo] at b<;>simp only[Rel] at h ⊢
   ·obtain⟨s,x,r,q,h3⟩:=h;exact⟨s,x,r,all b.1 q,all b.2 h3⟩
   ·obtain⟨vs,r,q⟩:=h;exact⟨vs,r,all b q⟩
   ·obtain⟨vs,r,q⟩:=h;exact⟨vs,r,all b q⟩
  ·refine l f ?_ h;cases c<;>simp only[C.leaf,aaZ] at f<;>simpa only[gu] using b
theorem su (m:dH F L M) {M1:TL}{c j:C}{v:Value}(h:Mw M M1 c j) (b:Rel F L c v):Rel F (wq L M1) j v:=by
 rcases h with rfl | ⟨rfl,l⟩ | ⟨rfl,rfl⟩ | ⟨rfl,k,t,sz,rfl,f,d⟩ | ⟨els,rfl,rfl⟩
 ·simp only[Rel]
 ·refine rC (fun k o f d=>?_) 3 l b;rw[kQ];cases e:M1.get k with
  | none=>exact p7 e f
  | some q=>simp only[d]
 ·exact uK (c:=.nils) (by simpa only[Rel] using b)
 ·simp only[Rel] at b ⊢;subst b;refine⟨none,0,t,sz,0,[],rfl,?_⟩;rw[kQ,d];simp only[cu m f]
 ·simpa only[Rel] using vF b
theorem Dz (j:dH F L M) {M1:TL}:∀{cs cs':List C}{vs:List Value},JT M M1 cs cs'->aG F L cs vs->aG F (wq L M1) cs' vs
 | [],cs',vs,h,b=>by simp only[JT] at h;subst h;simpa only[aG] using b
 | c::cs,cs',vs,h,b=>by
  simp only[JT] at h;obtain⟨n,k,rfl,m,l⟩:=h;simp only[aG] at b ⊢;obtain⟨v,d,rfl,f,e⟩:=b;exact⟨v,d,rfl,su j m f,Dz j l e⟩
theorem Ny (s:dH F L M) {M1:TL}{o o':TO}{p:Own}(h:VH M M1 o o') (b:dG F L o p):dG F (wq L M1) o' p:=by
 rcases h with⟨rfl,j⟩ | ⟨t,cs,cs',rfl,rfl,h⟩
 ·cases o with
  | row t sz els=>cases p with
   | row=>exact b
   | box=>exact b.elim
  | map es=>cases p with
   | row=>exact b.elim
   | box=>exact b
  | win t pre cs post=>cases p with
   | row=>exact b.elim
   | box g n vs =>
    simp only[JU] at j;obtain⟨u,v1,r,v3,e,f,d,x⟩:=b;have:=d.map (g:=id) (F':=F) (L':=wq L M1) (fun c l v m=>rC (fun k o f d=>by
     rw[kQ];cases e:M1.get k with
     | none=>exact p7 e f
     | some q=>simp only[d]) 3 (aa1.1 j c l) m)
    exact⟨u,v1,r,v3,e,f,by simpa using this,x⟩
  | box t cs=>cases p with
   | row=>exact b.elim
   | box g n vs =>
    simp only[JU] at j;refine⟨b.1,?_⟩;have:=b.2.map (g:=id) (F':=F) (L':=wq L M1) (fun c l v m=>rC (fun k o f d=>by
     rw[kQ];cases e:M1.get k with
     | none=>exact p7 e f
     | some q=>simp only[d]) 3 (aa1.1 j c l) m)
    simpa using this
 ·cases p with
  | row=>exact b.elim
  | box g n vs=>exact⟨b.1,Dz s h b.2⟩
theorem uN (c:dH F L M) {M1:TL}(h:gives M M1 M1):dH F (wq L M1) M1:=by
 intro k;rw[kQ];cases e:M1.get k with
 | none=>trivial
 | some o =>
  rcases Dy h e with⟨q,b,j⟩ | ⟨b,t,sz,rfl⟩
  ·rcases eX (c k) with⟨d,f⟩ | ⟨m,p,d,f,l⟩
   ·rw[d] at b;cases b
   ·rw[d] at b;injection b with b
    subst b;simp only[f];exact Ny c j l
  ·simp only[cu c b];exact⟨rfl,rfl,rfl,⟨by simp,none,0,rfl,fun _=>rfl⟩,by simp only[aP]⟩
theorem uO (c:St F L w) (b:dH F L M) {M1:TL}(h:gives M M1 M1):St F (wq L M1) w/\Step F L w F (wq L M1) w:=⟨c.gives (vI b h),tD (vI b h)⟩
theorem jP:∀{l M1:TL},nJ l M1=true->∀{k o},l.get k=some o->Cf o=false->∃o',M1.get k=some o'
 | [],M1,h,k,o,e,_=>by cases e
 | (j,.box r q)::l,M1,h,k,o,e,b=>by
  simp only[nJ] at h;split at h
  case h_2=>cases h
  rename_i m n d;simp only[TL.get] at e;split at e
  ·rename_i c;have:=v8 c;subst this;exact⟨_,d⟩
  ·exact jP h e b
 | (j,.map es)::l,M1,h,k,o,e,b=>by
  simp only[nJ] at h;split at h
  case h_2=>cases h
  rename_i f d;simp only[TL.get] at e;split at e
  ·rename_i c;have:=v8 c;subst this;exact⟨_,d⟩
  ·exact jP h e b
 | (j,.win ..)::l,M1,h,k,o,e,b=>by
  simp only[nJ] at h;split at h
  case h_2=>cases h
  rename_i m p n s d;simp only[TL.get] at e;split at e
  ·rename_i c;have:=v8 c;subst this;exact⟨_,d⟩
  ·exact jP h e b
 | (j,.row ..)::l,M1,h,k,o,e,b=>by
  simp only[nJ] at h;simp only[TL.get] at e;split at e
  ·injection e with e;subst e;cases b
  ·exact jP h e b
theorem yR:∀{l M1:TL},covers l M1=true->∀{k o},l.get k=some o->∃o',M1.get k=some o'
 | [],M1,h,k,o,e=>by cases e
 | (j,p)::l,M1,h,k,o,e=>by
  simp only[covers] at h;split at h
  case h_2=>cases h
  rename_i q c;simp only[TL.get] at e;split at e
  ·rename_i b;have:=v8 b;subst this;exact⟨_,c⟩
  ·exact yR h e
theorem Kh {L':Loc}(d:aJ L ρ a) (h:∀k g t cs,L.get k=some (.box g t cs)->∃cs',L'.get k=some (.box g t cs')):aJ L' ρ a:=by
 refine⟨fun t=>?_,fun t k off e=>?_,d.el⟩
 ·rw[d.eq t];cases e:ρ t with
  | v x=>rfl
  | el a j=>rfl
  | own k off =>
   obtain⟨g,ty,cs,c⟩:=d.own t k off e;obtain⟨cs',b⟩:=h _ _ _ _ c;simp only[conc,c,b]
 ·obtain⟨g,ty,cs,c⟩:=d.own t k off e;obtain⟨cs',b⟩:=h _ _ _ _ c;exact⟨g,ty,cs',b⟩
theorem rD (n:St F L w) (u:aJ L ρ a) (c:TS G F L ρ M τ) {M1:TL}(h:gives M M1 M1) (r:covers M M1=true) :
  St F (wq L M1) w/\aJ (wq L M1) ρ a/\Step F L w F (wq L M1) w/\TS G F (wq L M1) ρ M1 τ/\Ext L (wq L M1):=by
 obtain⟨s,m⟩:=uO n c.tl h;have b:∀k o,L.get k=some o->(wq L M1).get k=some o:=by
  intro k o e;rcases eX (c.tl k) with⟨f,d⟩ | ⟨q,p,f,d,v⟩
  ·rw[d] at e;cases e
  ·obtain⟨o',l⟩:=yR r f;rw[kQ,l];simp only[e]
 refine⟨s,Kh u fun k g t cs e=>⟨cs,b _ _ e⟩,m,⟨uN c.tl h,fun j=>(c.env j).ext (aF.le_refl F) fun k o e=>⟨o,b k o e,Own.aah o⟩,fun k g t e=>?_,c.glob⟩,fun k o e=>⟨o,b k o e,Own.aah o⟩⟩;obtain⟨cs,h⟩:=c.kp k g t e;exact⟨cs,b _ _ h⟩
theorem RJ {F:aF}{args:List C}{vs:List Value}(ha:aG F L args vs):aG F (inp []) (args.map fun c=>c.aaj.ren (cn [] 1000)) vs :=
 ha.map fun c _ v b=>(jd b).ren (fun j m e=>by cases e)
theorem VO {F:aF}{L:Loc}{args:List C}{vs:List Value}{f:Nat}{o:Own}(k:L.get f=some o) (ha:aG F L args vs):aG F (inp [o]) (args.map fun c=>c.aaj.ren (cn [f] 1000)) vs :=
 ha.map fun c _ v h=>(jd h).ren (fun j m e o' b=>by
  obtain⟨n,d,rfl⟩:=Cd e;cases n with
  | zero =>
   simp only[aa2,w7] at d;subst d;rw[k] at b;injection b with b
   subst b;rfl
  | succ n=>simp at d)
theorem Fc:dH F (inp []) (jG []):=fun k=>by rw[cI,bg];split<;>simp[JV]
theorem iB.aao {Li:List Own}{R:List TO->C->Prop}:∀F G L v,aF.le F G->iB Li R F L v->iB Li R G L v:=by
 rintro F G L v b ⟨Mo,c,f,j,d,e,h⟩;exact⟨Mo,c,f,j.mono b,d.mono b,e,h⟩
theorem vJ {f:Nat}{args:List C}{vs:List Value}{d:Option Nat}{K:TL->aY->C->Prop}(s:TS G F L ρ M τ) (ha:aG F L args vs) (h:tL P f args M τ d K) :
  eV P f vs F L d (fun F' L' v=>∃M' am c,TS G F' L' ρ M' am/\aT F' L' c (.v v)/\K M' am c):=by
 cases h with
 | frz R h k =>
  refine .frz (iB [] R) (h.out F [] vs rfl Fc (RJ ha)) ?_;rintro v F' Lo l ⟨Mo,c,q,r,b,q4,q5⟩;obtain⟨rfl,k2⟩:=k c Mo q5 b.wf;have:Lo=[]:=List.length_eq_zero_iff.1 (by rw[<-q];rfl);subst this;exact⟨rfl,fun _=>⟨M,τ,_,s.mono l,kM (b.ext (aF.le_refl F') (fun k o e=>by rw[bg] at e;split at e<;>simp at e)),k2⟩⟩
 | own R k h hd hk kk =>
  refine .own (iB [] R) k (h.out F [] vs rfl Fc (RJ ha)) hd (cu s.tl hk) ?_;rintro v F' Lo l ⟨Mo,c,q,r,b,q4,q5⟩;have bi:∀o∈Mo,o.Wf:=by
   intro o ho;obtain⟨i,hi⟩:=abf.1 ho;have ba:i<Lo.length:=by rw[<-q];exact(xD.1 hi).1
   have:=r (1000+i);rw[cI,bg,o6 (by omega),o6 (by omega),show 1000+i-1000=i by omega,hi,w8 ba] at this;exact dG.wf this
  obtain⟨o,rfl,k2⟩:=kk c Mo q5 b.wf bi
  match Lo,q with
  | [p],_ =>
   have n:∀j m,br [k] j=some m->∀o,(inp [p]).get j=some o->(L.set k p).get m=some o:=by
    intro j m hj o ho;obtain⟨a1,a2⟩:=nj hj;rw[bg,o6 a1] at ho;have:j-1000=0:=by have:=(xD.1 a2).1;simp at this;omega
    rw[this] at ho a2;simp at ho a2;subst ho a2;rw[Loc.aac,o6 rfl]
   have al:=r 1000;rw[cI,bg,o6 (by omega),o6 (by omega)] at al;refine⟨p,rfl,fun _=>⟨_,τ,_,s.new l (cu s.tl hk) (dG.ren n al),kM (b.ren n),k2⟩⟩
 | row R kr t sz els ao hk h kk =>
  obtain⟨rv,xs,hL,⟨hm,av,cv,rfl,bp⟩,hr⟩:=lu s.tl hk;refine .row (fun F' Lo v=>Lo=[]/\iB [] R F' [] v) kr _ t sz els.length xs ⟨ao,fun F1 F2 L v bm u=>⟨u.1,iB.aao _ _ _ _ bm u.2⟩,fun w hs=>?_⟩ hL ?_
  ·have be:aJ (inp [.row (.slice av els.length cv) t sz els.length xs]) (fun _=>.v undef) (⟨#[],[]⟩:Act):=by
    refine⟨fun j=>?_,fun j k off e=>(by cases e),fun j a i e=>(by cases e)⟩;simp[conc]
   obtain⟨F2,L2,g1,_,g3,l,y,rfl⟩:=pq (k:=1000) (KK:=fun F' L'=>F.le F'/\Je F' (.slice av els.length cv) sz els.length xs/\L'=(inp [.row (.slice av els.length cv) t sz els.length xs]).del 1000) hs be ⟨_,_,_,_,_,rfl,fun F' l y=>⟨l,y,rfl⟩⟩;have an:Rel F2 (L.del kr) (.sl els) (.slice av els.length cv):=by
    simp only[Rel];rcases y with⟨e1,e2,e3⟩ | ⟨ad,c2,e1,e2,e3⟩
    ·injection e1 with q r b
     have:els=[]:=List.length_eq_zero_iff.1 r;subst this;exact⟨av,cv,rfl,by simp,by simp,fun _=>⟨rfl,b⟩,sz,by simp only[gS]⟩
    ·injection e1 with q r b
     subst q b;exact⟨some ad,cv,rfl,e3,hm,fun e=>(by cases e),sz,(hr.mono l).frz e2⟩
   obtain⟨l1,_⟩:=Dx l hL an;have bo:aG F2 (L.del kr) (args.map (C.frz kr els)) vs:=ha.map fun c _ v hc=>Rel.mp l1 3 hc;have ap:=RJ bo;rw[abG] at ap;refine((h.out F2 [] vs rfl Fc ap).run w g1).mono ?_;rintro e w' ⟨v,F',Lo,rfl,bl,bk,u⟩;have bc:Lo=[]:=by
    obtain⟨Mo,c,q,r,b,q4,q5⟩:=u;obtain⟨rfl,_⟩:=kk c Mo q5 b.wf;exact List.length_eq_zero_iff.1 (by rw[<-q];rfl)
   subst bc;exact⟨v,F',[],rfl,bl,g3.trans bk,rfl,u⟩
  ·rintro v F' Lo l ⟨rfl,Mo,c,q,r,b,q4,q5⟩;obtain⟨rfl,k2⟩:=kk c Mo q5 b.wf;refine⟨rfl,fun _=>⟨_,_,_,(s.mono l).aax (k:=kr) (o':=.row (.slice none 0 0) t sz 0 []) (to:=.row t sz []) (fun g t' cs e=>by rw[hL] at e;injection e with e;cases e) ⟨rfl,rfl,rfl,⟨abl _,none,0,rfl,fun _=>rfl⟩,by simp only[aP]⟩,kM (b.ext (aF.le_refl F') (fun k o e=>by rw[bg] at e;split at e<;>simp at e)),k2⟩⟩
 | lent kr t sz els x hk h k =>
  obtain⟨rv,xs,hL,z,hr⟩:=lu s.tl hk;refine .lent (fun F' v=>Rel F' (inp []) x v) kr rv t sz els.length xs (h.out F rv xs vs ⟨rfl,rfl,rfl,z,hr⟩ (VO hL ha)) hL fun v F' l u _=>?_;exact⟨M,τ,_,s.mono l,kM (u.ext (aF.le_refl F') (fun k o e=>by rw[bg] at e;split at e<;>simp at e)),k u.wf⟩
def lF:eY->Bool
 | .call _ _=>true
 | .callV _ _=>true
 | _=>false
theorem TS.aan {F:aF}{L:Loc}{ρ:Env}{M:TL}{τ:aY}{K:TK}{d:Option Nat}(b:TS G F L ρ M τ) {c:C}{sv:SV}(e:aT F L c sv) (h:K M (bL d c τ)):Both G K F L (Fr.put d sv ρ):=⟨_,_,b.put e d,h⟩
theorem jW (h:∀j,aT F L (τ j) (ρ j)) {fi ca:List C}{c b:List Value}(e:aG F L fi c) (d:aG F L ca b) (args:List X):aG F L (fi++eP τ args++ca) (c.toArray.toList++bE L ρ args++b.toArray.toList):=by
 simpa using(e.append (dD h args)).append d
theorem dQ.imp {f:Nat}{args:List Value}{F:aF}{L:Loc}{K K':aF->Loc->Value->Prop}(h:dQ P f args F L K) (k:∀F' L' v,K F' L' v->K' F' L' v):dQ P f args F L K':=by
 obtain⟨ks,ko,Lin,R,j,d,m,p,o,e⟩:=h;exact⟨ks,ko,Lin,R,j,d,m,p,o,fun v F' Lo l n=>let⟨a,b,c⟩:=e v F' Lo l n;⟨a,b,k _ _ _ c⟩⟩
theorem eV.imp' {f:Nat}{args:List Value}{F:aF}{L:Loc}{d:Option Nat}{K K':aF->Loc->Value->Prop}(h:eV P f args F L d K) (p:∀F' L' v,K F' L' v->K' F' L' v):eV P f args F L d K':=by
 cases h with
 | frz R h k=>exact .frz R h fun v F' Lo j l=>let⟨a,b⟩:=k v F' Lo j l;⟨a,fun e=>p _ _ _ (b e)⟩
 | own R k h s c m=>exact .own R k h s c fun v F' Lo j l=>let⟨o,a,b⟩:=m v F' Lo j l;⟨o,a,fun e=>p _ _ _ (b e)⟩
 | row R r q t sz n xs h c m=>exact .row R r q t sz n xs h c fun v F' Lo j l=>let⟨a,b⟩:=m v F' Lo j l;⟨a,fun e=>p _ _ _ (b e)⟩
 | lent R r q t sz n xs h c m=>exact .lent R r q t sz n xs h c fun v F' j l e=>p _ _ _ (m v F' j l e)
theorem Ki {op:BinOp}{k:IntKind}{a b:Int}{K K':Value->Prop}(h:binI op k a b K) (c:∀v,K v->K' v):binI op k a b K':=by
 cases op<;>simp only[binI] at h ⊢<;>first
  | exact h.elim
  | exact⟨c _ h.out⟩
  | exact⟨h.ne,⟨c _ h.out.out⟩⟩
  | exact⟨h.ne,c _ h.out⟩
  | exact c _ h
theorem Nz {op:BinOp}{k:IntKind}{a b:Int}{K K':Value->Prop}(h:shI op k a b K) (c:∀v,K v->K' v):shI op k a b K':=by
 cases op<;>simp only[shI] at h ⊢<;>first
  | exact h.elim
  | exact⟨h.1,⟨c _ h.2.out⟩⟩
  | exact⟨h.1,c _ h.2⟩
theorem Kj {op:BinOp}{a b:ByteArray}{K K':Value->Prop}(h:binS op a b K) (c:∀v,K v->K' v):binS op a b K':=by
 cases op<;>simp only[binS] at h ⊢<;>first
  | exact h.elim
  | exact c _ h
  | exact⟨h.1,c _ h.2⟩
theorem DA {o:eY}{V V':SV->Prop}{F:aF}{L:Loc}{ρ:Env}(h:aN o F L ρ V) (d:∀v,V v->V' v):aN o F L ρ V':=by
 have load:∀{a:Option Addr}{j n:Nat}{g:List Value->SV},j8 F L a j n (fun cs=>V (g cs))->j8 F L a j n (fun cs=>V' (g cs)):=fun h=>⟨let⟨cs,f,e,m⟩:=h.out;⟨cs,f,e,d _ m⟩⟩;have loadD:∀{a:Option Addr}{j n:Nat}{g:List Value->SV},jg F a j n (fun cs=>V (g cs))->jg F a j n (fun cs=>V' (g cs)):=fun h=>⟨let⟨cs,f,e,m⟩:=h.out;⟨cs,f,e,d _ m⟩⟩;cases o<;>simp only[aN] at h ⊢<;>first
  | exact h.elim
  | exact d _ h
  | skip
 case pick c a b =>
  generalize ev ρ c=z at h ⊢;split at h<;>first | exact h.elim | exact d _ h
 case build zs ps =>
  generalize built L ρ zs ps=z at h ⊢;split at h<;>first | exact h.elim | exact d _ h
 case load agg n x =>
  generalize ev ρ x=z at h ⊢;split at h
  ·rename_i k off;generalize L.get k=y at h ⊢;split at h
   ·rename_i t cs;generalize jz t ((cs.drop off).take n) n=b at h ⊢;cases b
    ·exact h.elim
    ·exact d _ h
   ·exact h.elim
  ·exact load h
  ·exact load h
  ·exact h.elim
 case loadR agg n x =>
  generalize ev ρ x=z at h ⊢;split at h
  ·rename_i k off;generalize L.get k=y at h ⊢;split at h
   ·rename_i t cs;generalize jz t ((cs.drop off).take n) n=b at h ⊢;cases b
    ·exact h.elim
    ·exact d _ h
   ·exact h.elim
  ·exact load h
  ·exact load h
  ·exact h.elim
 case loadD agg n x =>
  generalize ev ρ x=z at h ⊢;split at h
  ·rename_i k off;generalize L.get k=y at h ⊢;split at h
   ·rename_i t cs;generalize jz t ((cs.drop off).take n) n=b at h ⊢;cases b
    ·exact h.elim
    ·exact d _ h
   ·exact h.elim
  ·exact loadD h
  ·exact loadD h
  ·exact h.elim
 case gload g =>
  obtain⟨v,t,fr,f,e⟩:=h;exact⟨v,t,fr,f,d _ e⟩
 case loadF agg n x =>
  generalize ev ρ x=z at h ⊢;split at h
  ·exact loadD h
  ·exact loadD h
  ·exact h.elim
 case loadK key agg n x =>
  generalize ev ρ x=z at h ⊢;split at h
  ·rename_i k off;generalize Nat.beq k key=q at h ⊢;cases q
   ·exact h.elim
   ·simp only[] at h ⊢;generalize L.get k=y at h ⊢;split at h
    ·rename_i t cs;generalize jz t ((cs.drop off).take n) n=b at h ⊢;cases b
     ·exact h.elim
     ·exact d _ h
    ·exact h.elim
  ·exact h.elim
 case mlook str ok z0 x i =>
  generalize ev ρ x=z at h ⊢;split at h
  ·obtain⟨k,cs,f,e,⟨m⟩⟩:=h;exact⟨k,cs,f,e,⟨m.imp (fun⟨i,v,p,u⟩=>⟨i,v,p,d _ u⟩) fun⟨p,u⟩=>⟨p,d _ u⟩⟩⟩
  ·exact h.elim
 case mlen x =>
  generalize ev ρ x=z at h ⊢;split at h
  ·obtain⟨k,cs,f,e,m⟩:=h;exact⟨k,cs,f,e,d _ m⟩
  ·exact h.elim
 case b2sD x =>
  generalize ev ρ x=z at h ⊢;split at h
  ·exact⟨let⟨cs,f,e,⟨bs,m,p⟩⟩:=h.out;⟨cs,f,e,⟨bs,m,d _ p⟩⟩⟩
  ·exact h.elim
 case b2sR x =>
  generalize ev ρ x=z at h ⊢;split at h
  ·exact⟨let⟨k,t,c,bs,f,e,m,p⟩:=h.out;⟨k,t,c,bs,f,e,m,d _ p⟩⟩
  ·exact h.elim
 case mkif t x =>
  generalize ev ρ x=z at h ⊢;split at h<;>first
   | exact h.elim
   | exact d _ h
   | (split at h
      ·exact d _ h
      ·exact h.elim)
 case nilck x =>
  generalize ev ρ x=z at h ⊢;split at h<;>first
   | exact h.elim
   | exact d _ h
   | exact⟨h.1,d _ h.2⟩
   | (split at h
      ·exact⟨h.1,d _ h.2⟩
      ·exact h.elim)
 case mkmv nm x =>
  generalize ev ρ x=z at h ⊢;split at h<;>first | exact h.elim | exact d _ h
 case bin op x y =>
  generalize ev ρ x=z at h ⊢;generalize ev ρ y=z' at h ⊢;split at h
  ·rename_i k a k' b;generalize Jd op=q at h ⊢;cases q
   ·generalize qM k k'=r at h ⊢;cases r
    ·exact h.elim
    ·exact Ki h fun v=>d _
   ·exact Nz h fun v=>d _
  ·exact Kj h fun v=>d _
  ·exact h.elim
 case eqB neg x y =>
  generalize ev ρ x=z at h ⊢;generalize ev ρ y=z' at h ⊢;split at h<;>first | exact h.elim | exact d _ h
 case eqP neg x y =>
  generalize ev ρ x=z at h ⊢;generalize ev ρ y=z' at h ⊢;split at h<;>first | exact h.elim | exact d _ h
 case eqS neg x y =>
  generalize ev ρ x=z at h ⊢;generalize ev ρ y=z' at h ⊢;split at h<;>first | exact h.elim | exact d _ h
 case eqF neg x y =>
  generalize ev ρ x=z at h ⊢;generalize ev ρ y=z' at h ⊢;split at h<;>first | exact h.elim | exact d _ h
 case tas t z x =>
  generalize ev ρ x=y at h ⊢;split at h<;>first
   | exact d _ h
   | (split at h<;>exact d _ h)
   | exact h.elim
 case eqN neg x =>
  generalize ev ρ x=z at h ⊢;split at h<;>first | exact h.elim | exact d _ h
 case eqA neg ks x y =>
  generalize ev ρ x=z at h ⊢;generalize ev ρ y=z' at h ⊢;split at h
  case h_2=>exact h.elim
  rename_i cs ds;generalize jA ks cs.toList ds.toList true=q at h ⊢;cases q with
  | none=>exact h.elim
  | some b=>exact d _ h
 case un op x =>
  generalize ev ρ x=z at h ⊢;split at h<;>first | exact h.elim | exact d _ h | exact⟨d _ h.out⟩
 case conv k x =>
  generalize ev ρ x=z at h ⊢;split at h<;>first | exact h.elim | exact⟨d _ h.out⟩
 case b2s x =>
  generalize ev ρ x=z at h ⊢;split at h
  ·exact⟨let⟨cs,f,e,⟨bs,m,p⟩⟩:=h.out;⟨cs,f,e,⟨bs,m,d _ p⟩⟩⟩
  ·exact h.elim
 case slc sz x lo hi =>
  generalize ev ρ x=z at h ⊢;split at h
  ·rename_i a n c;generalize jZ ρ 0 lo=y at h ⊢;generalize jZ ρ n hi=y' at h ⊢;split at h
   ·exact⟨h.lo,h.le,h.hi,d _ h.out⟩
   ·exact h.elim
  ·exact h.elim
 case slcS x lo hi =>
  generalize ev ρ x=z at h ⊢;split at h
  ·rename_i s;generalize jZ ρ 0 lo=y at h ⊢;generalize jZ ρ s.size hi=y' at h ⊢;split at h
   ·exact⟨h.lo,h.le,h.hi,d _ h.out⟩
   ·exact h.elim
  ·exact h.elim
 case fieldA off x =>
  generalize ev ρ x=z at h ⊢;split at h<;>first | exact h.elim | exact d _ h
 case fieldV agg off n x =>
  generalize ev ρ x=z at h ⊢;split at h
  ·rename_i cs;generalize fZ ((cs.toList.drop off).take n) n=b at h ⊢;cases b
   ·exact h.elim
   ·exact d _ h
  ·exact h.elim
 case idxA sz x i =>
  generalize ev ρ x=z at h ⊢;generalize ev ρ i=z' at h ⊢;split at h
  ·exact⟨h.ne,h.lo,h.hi,d _ h.out⟩
  ·exact h.elim
 case idxS x i =>
  generalize ev ρ x=z at h ⊢;generalize ev ρ i=z' at h ⊢;split at h
  ·exact⟨h.lo,h.hi,d _ h.out⟩
  ·exact h.elim
 case extr x i =>
  generalize ev ρ x=z at h ⊢;split at h
  ·rename_i vs;generalize vs.toList[i]?=y at h ⊢;cases y
   ·exact h.elim
   ·exact d _ h
  ·exact h.elim
 case len x =>
  generalize ev ρ x=z at h ⊢;split at h<;>first | exact h.elim | exact d _ h
 case lenS x =>
  generalize ev ρ x=z at h ⊢;split at h<;>first | exact h.elim | exact d _ h
 case capa x =>
  generalize ev ρ x=z at h ⊢;split at h<;>first | exact h.elim | exact d _ h
 case mm mx args =>
  generalize args.map (ev ρ)=z at h ⊢;split at h
  ·rename_i k a l;generalize P1 mx a l=y at h ⊢;cases y
   ·exact h.elim
   ·exact d _ h
  ·exact h.elim
theorem RM {o:eY}{d:Option Nat}{K:TK}{F:aF}{L:Loc}{ρ:Env}{M:TL}{τ:aY}(b:TS G F L ρ M τ) (h:outT o M τ fun v=>K M (bL d v τ)):aN o F L ρ (fun v=>Both G K F L (Fr.put d v ρ)) :=
 DA (VL b h) fun sv ⟨c,e,f⟩=>b.aan e f
set_option maxHeartbeats 1000000 in
theorem NA {str:Bool}{c:C}(h:JQ str c=true):(∃n,str=false/\c=.int .i64 n)\/∃s,str=true/\c=.str s:=by
 unfold JQ at h;split at h
 ·exact .inl ⟨_,rfl,rfl⟩
 ·exact .inr ⟨_,rfl,rfl⟩
 ·cases h
theorem Gf {F:aF}{str:Bool}{key c:C}{kv v:Value}(f:Rel F [] key kv) (m:Rel F [] c v):∀{es es':List (C×C)}{vs:List Value},jO F es vs->JR str key c es=some es'->∃b,xR str kv v vs=some b/\jO F es' b
 | [],es',vs,h,e=>by
  simp only[jO] at h;subst h;simp only[JR,w7] at e;subst e;exact⟨_,rfl,by simp only[jO];exact⟨kv,v,[],rfl,f,m,rfl⟩⟩
 | (k,d)::l,es',vs,h,e=>by
  simp only[jO] at h;obtain⟨u,x,b,rfl,n,p,o⟩:=h;simp only[JR] at e;split at e
  ·rename_i j;injection e with e
   subst e;exact⟨_,by simp only[xR,ru j f n];rfl,by simp only[jO];exact⟨kv,v,b,rfl,f,m,o⟩⟩
  ·rename_i j;split at e
   case h_2=>cases e
   rename_i y q;injection e with e
   subst e;obtain⟨s,r,t⟩:=Gf f m o q;exact⟨_,by simp only[xR,ru j f n,r];rfl,by simp only[jO];exact⟨u,x,s,rfl,n,p,t⟩⟩
  ·cases e
theorem HX {F:aF}{L:Loc}{c:C}{v:Value}(h:Rel F L c.cel v) (b:eH (ct c)=true):Rel F [] c.cel.aaj v:=by
 have leaf:eH [c]=true->Rel F L c v->Rel F [] c v:=fun b h=>by
  have:=eZ (L':=[]) b (show aG F L [c] [v] by simp only[aG];exact⟨v,[],rfl,h,rfl⟩);simp only[aG] at this;obtain⟨u,us,e,d,_⟩:=this;injection e with e1 e2
  rw[e1];exact d
 cases c
 case agg cs =>
  simp only[C.cel,ct] at h b ⊢;refine jd ?_;simp only[Rel] at h ⊢;obtain⟨vs,d,f⟩:=h;exact⟨vs,d,eZ b f⟩
 case ownv k o=>simp[ct,eH,C.pure,C.aak] at b
 case elr k j o=>simp[ct,eH,C.pure,C.aak] at b
 case slp k o j=>simp[ct,eH,C.pure,C.aak] at b
 case slo k o=>simp[ct,eH,C.pure,C.aak] at b
 all_goals
  simp only[C.cel,ct] at h b ⊢;exact jd (leaf b h)
theorem Kk {o:eY}{d:Option Nat}{K:TK}{F:aF}{L:Loc}{ρ:Env}{M:TL}{τ:aY}(ho:lF o=false) (l:TS G F L ρ M τ) (h:bS P o d M τ K):evalOp P o d F L ρ (Both G K):=by
 have z:=l.env;cases o
 case call=>cases ho
 case callV=>cases ho
 case box t x =>
  simp only[bS,fI,fk,eI] at h;simp only[evalOp];split at h
  case h_2=>exact h.elim
  rename_i k;split at h
  case h_2=>exact h.elim
  rename_i hk hc hb;simp only[cu l.tl hk];exact fun g=>Gc l hk hc (Cc hb) h g
 case boxD t x =>
  simp only[bS,fI,fk,eI] at h;simp only[evalOp];split at h
  case h_2=>exact h.elim
  rename_i k;split at h
  case h_2=>exact h.elim
  rename_i hk hc hb;simp only[cu l.tl hk];exact fun g _=>Gc l hk hc (Cc hb) h g
 case boxF t x =>
  simp only[bS,fI,fk,eI] at h;simp only[evalOp];split at h
  case h_2=>exact h.elim
  rename_i m j p;intro g F' hF hg;exact(l.mono hF).aan (RI hg (nP j) (kO ((eZ p (eJ z m)).mono hF))) h
 case alloc t zs =>
  simp only[bS,fI,fk,eI] at h;simp only[evalOp];split at h
  case h_2=>exact h.elim
  rename_i k;split at h
  case h_2=>exact h.elim
  rename_i hk hb;simp only[cu l.tl hk];exact fun g=>AV l hk (Cc hb) h g
 case allocD t zs =>
  simp only[bS,fI,fk,eI] at h;simp only[evalOp];split at h
  case h_2=>exact h.elim
  rename_i k;split at h
  case h_2=>exact h.elim
  rename_i hk hb;simp only[cu l.tl hk];exact fun g _=>AV l hk (Cc hb) h g
 case mkF e n sz xs =>
  simp only[bS,fI,fk,eI] at h;simp only[evalOp];split at h
  ·rename_i m j p;rw[(jV z m).1];exact fun g F' hF hg=>Gd l m (v8 j) (aa3 p) h hF hg
  ·rename_i m j p;split at h
   case h_2=>exact h.elim
   rename_i aE;obtain rfl:=v8 aE;split at h
   case h_2=>exact h.elim
   split at h
   case h_2=>exact h.elim
   rename_i be ho;obtain⟨q1,q2⟩:=Ge (e:=e) l ho (by simp) (v8 j) (aa3 p) h;rw[q1];exact fun g F' hF hg=>q2 hF hg
  ·exact h.elim
 case mkFD e n sz xs =>
  simp only[bS,fI,fk,eI] at h;simp only[evalOp];split at h
  ·rename_i m j p;rw[(jV z m).1];exact fun g F' hF hg _=>Gd l m (v8 j) (aa3 p) h hF hg
  ·rename_i m j p;split at h
   case h_2=>exact h.elim
   rename_i aE;obtain rfl:=v8 aE;split at h
   case h_2=>exact h.elim
   split at h
   case h_2=>exact h.elim
   rename_i be ho;obtain⟨q1,q2⟩:=Ge (e:=e) l ho (by simp) (v8 j) (aa3 p) h;rw[q1];exact fun g F' hF hg _=>q2 hF hg
  ·exact h.elim
 case mkR e n sz xs =>
  simp only[bS,fI,fk,eI] at h;simp only[evalOp];split at h
  case h_2=>exact h.elim
  rename_i k m j p;split at h
  case h_2=>exact h.elim
  rename_i hk;rw[(jV z m).1];simp only[cu l.tl hk];exact fun g=>Nw l m (v8 j) (aa3 p) hk h g
 case s2b e x =>
  simp only[bS,fI,fk,eI] at h;simp only[evalOp];split at h
  case h_2=>exact h.elim
  rename_i s hx;obtain⟨e1,e2⟩:=kK z hx;rw[e1];intro g c F' hF hf hc;have hl:(ak s.data.toList).length=s.size:=by simp[ak]
  have:=Ga (F:=F') (L:=L) (els:=ak s.data.toList) (a:=some ⟨g,0,none⟩) (c:=c) (sz:=1) (by rw[hl];exact hc) (by rw[hl];exact e2) (fun e=>by cases e) (E6 hf);rw[hl] at this;exact(l.mono hF).aan this h
 case makeS=>exact HW l h
 case store n y x=>exact E7 l h
 case storeD n y x=>exact yJ l h
 case storeK key n y x =>
  simp only[bS] at h;split at h
  case h_2=>exact h.elim
  rename_i k off hy;split at h
  case h_2=>exact h.elim
  rename_i hb;obtain⟨n',a',x',k',cd,g,t,cs,ho,e1,e2,e3,e4,e5,hK⟩:=jl (P:=P) rfl (yJ l h);rcases ho with ho | ho
  ·injection ho with q1 q2 q3
   subst q1 q2 q3;rw[(fG z hy).1] at e3;injection e3 with q1 q2
   subst q1 q2;have hb:=v8 hb;subst hb;exact i9 (.inr rfl) e1 e2 (fG z hy).1 e4 e5 hK
  ·cases ho
 case makeSD e sz n zs =>
  simp only[bS] at h;split at h
  case h_2=>exact h.elim
  rename_i k;split at h
  case h_2=>exact h.elim
  rename_i hk m j p;have ab:=cu l.tl hk;have an:zs.length=sz:=by have:=bJ m;simpa using this
  simp only[evalOp,ab,dJ an,p];intro g _;have hz:aG F [] ((zs.map sS).map C.can) zs:=kO (mg zs);have aw:dZ (zs.map sS)=true->∀i:Nat,aP F sz (List.replicate i ((zs.map sS).map C.can)) (List.replicate i zs).flatten:=by
   intro j i
   induction i with
   | zero=>simp only[List.replicate_zero,List.flatten_nil,aP]
   | succ i ih =>
    simp only[abD,List.flatten_cons,aP];exact⟨zs,_,rfl,an,nP j,hz,ih⟩
  have am:∀i:Nat,i=n->aP F sz (List.replicate i ((zs.map sS).map C.can)) (List.replicate i zs).flatten:=by
   intro i hi;rw[abn] at j;rcases j with j | j
   ·have j:=v8 j;rw[hi,j];simp only[List.replicate_zero,List.flatten_nil,aP]
   ·exact aw j i
  have p:=l.new (aF.le_refl F) ab (o:=.row (.slice (some ⟨g,0,none⟩) n n) e sz n (List.replicate n zs).flatten) (to:=.row e sz (List.replicate n ((zs.map sS).map C.can)))
   ⟨rfl,rfl,by simp,⟨aa3 p,_,_,rfl,fun e=>(by cases e)⟩,am _ rfl⟩
  exact⟨_,_,p.put (c:=.rw k) (ow (by rw[Loc.aac,o6 rfl])) (some k),h⟩
 case makeSV e sz b zs x =>
  simp only[bS] at h;split at h
  case h_2=>exact h.elim
  rename_i ki n k hx;split at h
  case h_2=>exact h.elim
  rename_i hk m j;have ab:=cu l.tl hk;have an:zs.length=sz:=by have:=bJ m;simpa using this
  obtain⟨m1,_,m3,m4,h⟩:=h;have hv:val L ρ x=.int ki n:=by rw[val,(fp z hx).1];rfl
  have ay:uh b (val L ρ x)=true:=by
   rw[hv,uh,yo,yo];exact⟨⟨Nat.ble_eq_true_of_le m3,Nat.ble_eq_true_of_le m4⟩,decide_eq_true m1⟩
  have hc:nu (val L ρ x)=n.toNat:=by rw[hv];rfl
  simp only[evalOp,ab,dJ an,ay];rw[hc];intro g _;have hz:aG F [] ((zs.map sS).map C.can) zs:=kO (mg zs);have am:∀i:Nat,aP F sz (List.replicate i ((zs.map sS).map C.can)) (List.replicate i zs).flatten:=by
   intro i
   induction i with
   | zero=>simp only[List.replicate_zero,List.flatten_nil,aP]
   | succ i ih =>
    simp only[abD,List.flatten_cons,aP];exact⟨zs,_,rfl,an,nP j,hz,ih⟩
  have p:=l.new (aF.le_refl F) ab (o:=.row (.slice (some ⟨g,0,none⟩) n.toNat n.toNat) e sz n.toNat (List.replicate n.toNat zs).flatten) (to:=.row e sz (List.replicate n.toNat ((zs.map sS).map C.can)))
   ⟨rfl,rfl,by simp,⟨m4,_,_,rfl,fun e=>(by cases e)⟩,am _⟩
  exact⟨_,_,p.put (c:=.rw k) (ow (by rw[Loc.aac,o6 rfl])) (some k),h⟩
 case callD f args =>
  simp only[bS,fI,fk,eI] at h;simp only[evalOp];refine eV.imp' (vJ l (dD z args) h) ?_;rintro F' L' v ⟨M',q,c,m,j,p⟩;exact m.aan j p
 case callVD f args =>
  simp only[bS,fI,fk,eI] at h;simp only[evalOp];split at h
  ·rename_i f' fi ca hx;obtain⟨bp,bu,e1,m,j⟩:=tP z hx;rw[e1];refine eV.imp' (vJ l (jW z m j args) h) ?_;rintro F' L' v ⟨M',q,c,m,j,p⟩;exact m.aan j p
  ·rename_i nm c hx;split at h
   case h_2=>exact h.elim
   rename_i t c;obtain⟨u,e1,hr⟩:=yG z hx;simp only[Rel] at hr;obtain⟨u',rfl,hu⟩:=hr;obtain⟨f',hm,h⟩:=h;have e2:mK P (ev ρ f)=some (f',[u'],[]):=by rw[e1];simp only[mK,hm]
   rw[e2];have ax:aG F L (c::eP τ args) ([u']++bE L ρ args++[]):=by
    rw[aaX];simp only[aaV,aa5,aG];exact⟨_,_,rfl,hu.lift,dD z args⟩
   refine eV.imp' (vJ l ax h) ?_;rintro F' L' v ⟨M',q,c,m,j,p⟩;exact m.aan j p
  ·exact h.elim
 case callO f args =>
  simp only[bS,fI,fk,eI] at h;simp only[evalOp];cases h with
  | mk h =>
   obtain⟨ks,ko,Lin,R,m,j,p,h4,h5,h6,h7⟩:=h;refine dQ.imp (sj (K:=fun M' q v=>K M' (bL d v q)) l (dD z args) m j p h4 h5 h6 h7) ?_;rintro F' L' v ⟨M',q,c,m,j,p⟩ _;exact m.aan j p
  | inpl ks Lin R m j p h4 =>
   refine dQ.imp (vH (K:=fun M' q v=>K M' (bL d v q)) l (dD z args) m j p h4) ?_;rintro F' L' v ⟨M',q,c,m,j,p⟩ _;exact m.aan j p
 case callVO f args =>
  simp only[bS,fI,fk,eI] at h;simp only[evalOp];split at h
  case h_2=>exact h.elim
  rename_i f' fi ca hx;obtain⟨bp,bu,e1,g1,g2⟩:=tP z hx;rw[e1];cases h with
  | mk h =>
   obtain⟨ks,ko,Lin,R,m,j,p,h4,h5,h6,h7⟩:=h;refine dQ.imp (sj (K:=fun M' q v=>K M' (bL d v q)) l (jW z g1 g2 args) m j p h4 h5 h6 h7) ?_;rintro F' L' v ⟨M',q,c,m,j,p⟩ _;exact m.aan j p
  | inpl ks Lin R m j p h4 =>
   refine dQ.imp (vH (K:=fun M' q v=>K M' (bL d v q)) l (jW z g1 g2 args) m j p h4) ?_;rintro F' L' v ⟨M',q,c,m,j,p⟩ _;exact m.aan j p
 case look x i =>
  simp only[bS] at h;simp only[evalOp];split at h
  case h_2=>exact h.elim
  rename_i k n hx hi;split at h
  case h_2=>exact h.elim
  rename_i r b hl;obtain⟨mv,e1,hm⟩:=BZ z hx;obtain⟨e2,_⟩:=fp z hi;rw[e1,e2];refine⟨k,r,b,hm,hl,l.aan (c:=.tup [.int .i64 r,.bool b]) ⟨_,rfl,?_⟩ h⟩;simp only[Rel,aG];exact⟨_,rfl,_,_,rfl,⟨rfl,CT hl⟩,_,_,rfl,rfl,rfl⟩
 case app=>exact Nx l h
 case appX=>exact J6 l h
 case appD=>exact J7 l h
 case appS=>exact J8 l h
 case appZ=>exact J9 l h
 case mkmap =>
  simp only[bS] at h;simp only[evalOp];split at h
  case h_2=>exact h.elim
  rename_i k;split at h
  case h_2=>exact h.elim
  rename_i hk;have ab:=cu l.tl hk;simp only[ab];intro g;have m:=l.new (aF.le_refl F) ab (o:=.box g 0 []) (to:=.map []) ⟨rfl,rfl⟩;exact⟨_,_,m.put (c:=.mpr k) (sv:=.v (.map (some g))) ⟨_,rfl,by simp only[Rel];exact⟨g,[],by rw[Loc.aac,o6 rfl],rfl⟩⟩ (some k),h⟩
 case mrange=>exact h.elim
 case mnext=>exact h.elim
 case mentry=>exact h.elim
 case mupd str x i v =>
  simp only[bS] at h;simp only[evalOp];split at h
  case h_2=>exact h.elim
  rename_i k hx;split at h
  case h_2=>exact h.elim
  rename_i es hk bi ay hp;obtain⟨es',bd,h⟩:=h;obtain⟨g,cs,e1,e2⟩:=Ca z hx;obtain⟨g',vs,e3,hE⟩:=E5 l.tl hk;rw[e2] at e3;injection e3 with e3
  injection e3 with q1 q2 q3
  subst q1 q3;rw[e1];have bj:Rel F [] (cB τ i) (val L ρ i)/\gD str (val L ρ i) (val L ρ i)=some true:=by
   rcases NA bi with⟨n,rfl,e⟩ | ⟨t,rfl,e⟩
   ·obtain⟨e2,w⟩:=fp z e;simp only[e,val,e2,conc,Rel,gD,decide_true];exact⟨⟨trivial,w⟩,trivial⟩
   ·obtain⟨e2,w⟩:=kK z e;simp only[e,val,e2,conc,Rel,gD,decide_true];exact⟨⟨trivial,w⟩,trivial⟩
  have bo:Rel F [] ((cB τ v).cel.aaj) (val L ρ v):=by
   have bz:=eJ z ay;have cz:=eZ (L':=[]) hp bz;exact HX (uJ z v) hp
  obtain⟨cs',az,bl⟩:=Gf bj.1 bo hE bd;refine⟨k,cs,e2,hE.isMap,bj.2,cs',az,?_⟩;have h4:=l.turn (o':=.box g 0 cs') (to:=.map es') e2 ⟨rfl,rfl⟩ (fun g' t' cy e=>by injection e with a b c;subst a b;exact⟨_,rfl⟩) (fun _ _=>⟨rfl,bl⟩);exact h4.aan (c:=.und) (sv:=.v undef) ⟨_,rfl,by simp only[Rel]⟩ h
 case copy e sz a b=>exact h.out _ _ _ _ l
 case copyX=>exact h.elim
 case storeX n a x=>exact E8 l h
 all_goals
  simp only[bS,fI,fk,eI] at h;simp only[evalOp];exact RM (d:=d) (K:=K) l h
end
end Go.Fr.T
