/- Part of the proofs of the statements of this seat. -/
import Derived.Test.YtnlegbokpofcaaaGreatDoorSpP6G
set_option maxRecDepth 10000
set_option linter.unusedVariables false
set_option linter.unusedSimpArgs false
namespace Go.Fr.Tryz
open Go Go.RowKit Go.Proofs Go.Fr Go.Fr.T Go.Fr.Api Go.Fr.Dm
theorem Kj {n:Int}{l b r:List UInt8}(h:takeD n l=some (b,r)):(b.length:Int)=n/\l=b++r:=by
 unfold takeD at h;split at h
 case isFalse=>cases h
 rename_i k;injection h with h
 injection h with h1 h2
 subst h1 h2;refine⟨?_,(List.take_append_drop _ _).symm⟩;rw[ac2];omega
theorem lz {b c:Type}{f:Dec b}{k:b->Dec c}{l r:List UInt8}{y:c}(h:gN f k l=some (y,r)):∃x a,f l=some (x,a)/\k x a=some (y,r):=by
 unfold gN at h;split at h
 ·cases h
 ·rename_i x a e;exact⟨x,a,e,h⟩
theorem Ct (size:Nat):∀(n:Nat) (p:Int) (out:List UInt8) (bs:List UInt8) (o r:List UInt8),out.length=size->vR size n p out bs=some (o,r)->o.length=size
 | 0,p,out,bs,o,r,a,h=>by
  have h:some (out,bs)=some (o,r):=h;injection h with h;injection h with h _;rw[<-h,a]
 | n+1,p,out,bs,o,r,a,h=>by
  rw[vR] at h;obtain⟨d,f,_,h⟩:=lz h;split at h
  case isFalse=>cases h
  rename_i j;obtain⟨b,e,hb,h⟩:=lz h;have c:=(Kj hb).1;have hi:32*(p+d).toNat<out.length:=by rw[a];exact yL (by omega)
  refine Ct size n _ _ _ o r ?_ h;rw[mR,a];have:(cJ out (p+d).toNat).length<=out.length-32*(p+d).toNat:=by
   unfold cJ;rw[ac2,ads];omega
  omega
theorem FI {a bs o r:List UInt8}(h:pz a bs=some (o,r)):o.length<=a.length+bs.length:=by
 obtain⟨s,j,d,h⟩:=lz h;obtain⟨k,f,e,h⟩:=lz h;obtain⟨c,p,b,h⟩:=lz h;have m:=(j6 d).2;have q:=(j6 e).2;have n:=(j6 b).2;unfold FH at h;split at h
 case isFalse=>cases h
 rename_i l;have:=Ct _ _ _ _ _ o r (p9 a s.toNat) h;omega
def QB (bs:List UInt8) (o:C):List TO:=[.box 86 [.own 1001 0],RB bs,.box 35 [o]]
theorem t45 (a bs:List UInt8) (e:a.length<=268435456) (hb:bs.length<=268435456):CallsTX PZ 45 [.own 1000 0,.pt [.sl (ah a)] 0,.own 1002 0] (QB bs .nils)
  (fun Mo c=>∃out r,pz a bs=some (out,r)/\Mo=QB r (.sl (ah out))/\c=.tup []) (fun v=>v=gC/\pz a bs=none):=by
 refine aC Tryz.func45 Qh rfl fun f d=>?_;refine cH [1001] (t46 a bs e hb) rfl rfl rfl rfl (fun v h=>h) ?_;rintro v Mo ⟨out,r,b,rfl,rfl⟩ _ _;refine⟨rfl,?_⟩;exact cD [1000,1001,1002] rfl rfl rfl rfl ⟨out,r,b,rfl,rfl⟩
def XB (Mo:List TO):Prop:=∃a b c,Mo=[.win 86 a [] [],.win 88 b [] [],.win 35 c [] []]
def XC (Mo:List TO):Prop:=∃b d a c,Mo=[.win 86 b [] [],.win 88 d [] [],.win 3 a [] [],.win 3 c [] []]
theorem abK (a bs:List UInt8) (k:a.length<=268435456) (hb:bs.length<=268435456) :
  CallsT PZ 33 [.fn 45 [] [.own 1000 0,.pt [.sl (ah a)] 0,.own 1002 0]] (QB bs .nils) (fun Mo c=>(∃out r,pz a bs=some (out,r)/\Mo=QB r (.sl (ah out))/\c=.bool true)\/(pz a bs=none/\XB Mo/\c=.bool false)):=by
 have h:CallsT PZ 33 [.fn 45 [] [.own 1000 0,.pt [.sl (ah a)] 0,.own 1002 0]] (QB bs .nils) (fun Mo c=>(∃out r,pz a bs=some (out,r)/\Mo=QB r (.sl (ah out))/\c=.bool true)\/(pz a bs=none/\tV (QB bs .nils) Mo/\c=.bool false)):=by
  refine iP (PS:=fun v=>v=gC/\pz a bs=none) (ns:=[1]) (out:=Nv) Tryz.func33 yu (qP.mono yH fun v h=>h.1) (fun v h=>rfl) rfl rfl ?_ fun q e=>?_
  ·rintro v ⟨rfl,h⟩;refine⟨.bool false,.bool false,?_,?_,fun Mo l=>.inr ⟨h,l,rfl⟩⟩
   ·intro L ρ o;obtain⟨n,g,t,d⟩:=o 0 2 _ rfl rfl;simp only[mU,n,d];rfl
   ·intro F L;rw[Rel]
  refine⟨rfl,?_⟩;refine cH [1000,1001,1002] (t45 a bs k hb) rfl rfl rfl rfl (fun v h=>h) ?_;rintro v Mo ⟨out,r,b,rfl,rfl⟩ _ _;refine⟨rfl,?_⟩;exact cD [1000,1001,1002] rfl rfl rfl rfl (.inl ⟨out,r,b,rfl,rfl⟩)
 refine((h.toX (Pp:=fun _=>False)).view (vw.refl _) (fun Mo c p=>?_) fun _ h=>h).noPan;rcases p with h | ⟨b,⟨f,M1,rfl,j,M2,rfl,m,M3,rfl,rfl⟩,rfl⟩
 ·exact⟨Mo,vw.refl _,.inl h⟩
 ·exact⟨_,vw.cons (jV f) (vw.cons (jV j) (vw.cons (jV m) (vw.refl []))),.inr ⟨b,⟨_,_,_,rfl⟩,rfl⟩⟩
theorem abL (bs:List UInt8) :
  CallsT PZ 33 [.fn 43 [] [.own 1000 0,.own 1002 0,.own 1003 0]] (PB bs 0 0) (fun Mo c=>(∃x y r,p8 bs=some ((x,y),r)/\Mo=PB r x y/\c=.bool true)\/(p8 bs=none/\XC Mo/\c=.bool false)):=by
 have h:CallsT PZ 33 [.fn 43 [] [.own 1000 0,.own 1002 0,.own 1003 0]] (PB bs 0 0) (fun Mo c=>(∃x y r,p8 bs=some ((x,y),r)/\Mo=PB r x y/\c=.bool true)\/(p8 bs=none/\tV (PB bs 0 0) Mo/\c=.bool false)):=by
  refine iP (PS:=fun v=>v=gC/\p8 bs=none) (ns:=[1]) (out:=Nv) Tryz.func33 yu (qP.mono yH fun v h=>h.1) (fun v h=>rfl) rfl rfl ?_ fun p d=>?_
  ·rintro v ⟨rfl,h⟩;refine⟨.bool false,.bool false,?_,?_,fun Mo k=>.inr ⟨h,k,rfl⟩⟩
   ·intro L ρ n;obtain⟨m,g,t,b⟩:=n 0 2 _ rfl rfl;simp only[mU,m,b];rfl
   ·intro F L;rw[Rel]
  refine⟨rfl,?_⟩;refine cH [1000,1001,1002,1003] (t43 bs) rfl rfl rfl rfl (fun v h=>h) ?_;rintro v Mo ⟨x,y,r,a,rfl,rfl⟩ _ _;refine⟨rfl,?_⟩;exact cD [1000,1001,1002,1003] rfl rfl rfl rfl (.inl ⟨x,y,r,a,rfl,rfl⟩)
 refine((h.toX (Pp:=fun _=>False)).view (vw.refl _) (fun Mo c o=>?_) fun _ h=>h).noPan;rcases o with h | ⟨a,⟨e,M1,rfl,j,M2,rfl,l,M3,rfl,f,M4,rfl,rfl⟩,rfl⟩
 ·exact⟨Mo,vw.refl _,.inl h⟩
 ·exact⟨_,vw.cons (jV e) (vw.cons (jV j) (vw.cons (jV l) (vw.cons (jV f) (vw.refl [])))),.inr ⟨a,⟨_,_,_,_,rfl⟩,rfl⟩⟩
def oC (a d:List UInt8):List UInt8×Int :=
 match p8 d with
 | none=>([],16)
 | some ((n,s),r)=>if n≠a.length\/s≠jw a then([],17)
  else match pz a r with
   | some (out,_)=>if cI a out=d then(out,0) else([],16)
   | none=>([],16)
end Go.Fr.Tryz
namespace Go.Fr.Tryz
open Go Go.Fr.T
theorem ofNat_toNat {n:Nat}(h:n<256):(UInt8.ofNat n).toNat=n:=by
 rw[UInt8.toNat_ofNat'];omega
theorem Av {f k z m:Nat}{r:List UInt8}(a:m<128) (b:0<m\/k=0):lp (f+1) k z (bN m++r)=some (Bh (z+m*128 ^ k),r):=by
 rw[bN,dif_pos a];simp only[acW,acX,lp];rw[ofNat_toNat (by omega),o6 a,o6 b]
theorem G9 {f k z m:Nat}{r:List UInt8}(a:¬m<128):lp (f+1) k z (bN m++r)=lp f (k+1) (z+m % 128*128 ^ k) (bN (m / 128)++r):=by
 rw[bN,dif_neg a];simp only[acW,lp];rw[ofNat_toNat (by omega),s8 (by omega),Nat.add_sub_cancel_left]
theorem Kk (m k:Nat):m % 128*128 ^ k+m / 128*128 ^ (k+1)=m*128 ^ k:=by
 have h:m % 128+128*(m / 128)=m:=Nat.mod_add_div m 128;have e:128 ^ (k+1)=128*128 ^ k:=by rw[Nat.pow_succ,Nat.mul_comm]
 rw[e,<-Nat.mul_assoc,Nat.mul_comm (m / 128) 128,<-Nat.add_mul,h]
theorem Aw:∀(f k z m:Nat) (r:List UInt8),(0<m\/k=0)->m<128 ^ (f+1)->lp (f+1) k z (bN m++r)=some (Bh (z+m*128 ^ k),r)
 | 0,k,z,m,r,a,h=>Av (by simpa using h) a
 | f+1,k,z,m,r,a,h=>by
  by_cases b:m<128
  ·exact Av b a
  ·rw[G9 b,Aw f (k+1) _ (m / 128) r (.inl (by omega)) (by rw[Nat.pow_succ] at h;omega),Nat.add_assoc,Kk]
theorem Vg (n:Int):Bh (zz n)=n:=by
 unfold Bh zz;split<;>split<;>omega
theorem ju (n:Int) (r:List UInt8) (b:-1099511627776<=n) (a:n<=1099511627776):getD (bN (zz n)++r)=some (n,r):=by
 have h:=Aw 5 0 0 (zz n) r (.inr rfl) (Nat.lt_of_le_of_lt (Nw n 1099511627776 (by omega) (by omega)) (by decide));unfold getD;rw[h];simp only[Nat.pow_zero,Nat.mul_one,Nat.zero_add,Vg]
theorem Kl (b r:List UInt8):takeD ((b.length:Nat):Int) (b++r)=some (b,r):=by
 unfold takeD;rw[o6 ⟨by omega,by rw[yo];omega⟩];simp
theorem sG (x:List UInt8) (i t:Nat):(cJ x i)[t]?=if t<32 then x[32*i+t]? else none:=by
 unfold cJ;rw[adn];split
 ·rw[adj]
 ·rfl
theorem iH (x:List UInt8) (i:Nat):(cJ x i).length=min 32 (x.length-32*i):=by
 unfold cJ;rw[ac2,ads]
theorem Cu {x y:List UInt8}(a:x.length=y.length) (h:∀i<dG y.length,cJ x i=cJ y i):x=y:=by
 apply adt;intro j
 by_cases b:j<y.length
 ·have:=j3 (fun l:List UInt8=>l[j % 32]?) (h (j / 32) (by unfold dG;omega));simp only[sG] at this;rw[o6 (by omega),o6 (by omega),show 32*(j / 32)+j % 32=j by omega] at this;exact this
 ·rw[ac3 (by omega),ac3 (by omega)]
theorem I5 {out b:List UInt8}{o:Nat}(h:o+b.length<=out.length) (j:Nat):(jM out o b)[j]?=if o<=j/\j<o+b.length then b[j-o]? else out[j]?:=by
 unfold jM;rw[acM,List.getElem?_append];have d:(out.take o).length=o:=by rw[ac2];omega
 rw[d];split
 ·rename_i a;rw[s8 (by omega),adn,o6 a]
 ·rename_i a;rw[List.getElem?_append];split
  ·rename_i c;rw[o6 (by omega)]
  ·rename_i c;rw[s8 (by omega),adj];congr 1;omega
theorem FJ {out b:List UInt8}{i:Nat}(h:out.length=b.length) (hi:32*i<b.length) (j:Nat):cJ (jM out (32*i) (cJ b i)) j=if j=i then cJ b i else cJ out j:=by
 have e:=iH b i;have c:32*i+(cJ b i).length<=out.length:=by omega
 apply adt;intro t;rw[sG,I5 c]
 by_cases d:j=i
 ·subst d;rw[o6 rfl]
  by_cases a:t<32
  ·rw[o6 a]
   by_cases f:32*j+t<b.length
   ·rw[o6 (by omega),show 32*j+t-32*j=t by omega]
   ·rw[s8 (by omega),ac3 (by omega),ac3 (by omega)]
  ·rw[s8 a,ac3 (by omega)]
 ·rw[s8 d,sG out]
  by_cases a:t<32
  ·rw[o6 a,o6 a,s8 (by omega)]
  ·rw[s8 a,s8 a]
def Up:Int->List Nat->Prop
 | _,[]=>True
 | p,i::l=>p<i/\Up i l
theorem I6 (b:List UInt8) (hb:b.length<=268435456):∀(l:List Nat) (p:Int) (out:List UInt8),-1<=p->Up p l->(∀i∈l,i<dG b.length)->p<=1073741824->out.length=b.length ->
  (∀i<dG b.length,i∉l->cJ out i=cJ b i)->vR b.length l.length p out (ri b p l)=some (b,[])
 | [],p,out,_,_,_,_,c,h=>by
  have:out=b:=Cu c fun i hi=>h i hi (by simp);rw[this];rfl
 | i::l,p,out,s,n,m,r,c,h=>by
  have f:=m i (by simp);have hi:=yL f;have q:dG b.length<=1073741824:=by unfold dG;omega
  have a:(cJ out i).length=(cJ b i).length:=by rw[iH,iH,c]
  show gN getD _ (bN (zz (i-p))++(cJ b i++ri b i l))=_;rw[aD (ju (i-p) _ (by have:=n.1;omega) (by omega))];have e:p+((i:Int)-p)=i:=by omega
  rw[e];rw[o6 ⟨by omega,by omega⟩];rw[show((i:Int)).toNat=i from rfl,a,aD (Kl _ _)];refine I6 b hb l i _ (by omega) n.2 (fun j d=>m j (by simp[d])) (by omega) ?_ fun j d o=>?_
  ·rw[mR (by have:=iH b i;omega),c]
  ·rw[FJ c hi];split
   ·rename_i e;rw[e]
   ·rename_i k;exact h j d (by simp[k,o])
theorem Ay (f:Nat->Bool):∀(n m:Nat) (p:Int),p<m->Up p ((List.range' m n).filter f)
 | 0,m,p,h=>by simp[Up]
 | n+1,m,p,h=>by
  rw[List.range'_succ,List.filter_cons];split
  ·exact⟨h,Ay f n (m+1) m (by omega)⟩
  ·exact Ay f n (m+1) p (by omega)
theorem ND (a b:List UInt8):Up (-1) (gT a b):=by
 unfold gT;rw[List.range_eq_range'];exact Ay _ _ 0 (-1) (by omega)
theorem RA {x y:List UInt8}(h:x <+: y) {t:Nat}(a:t<x.length):y[t]?=x[t]?:=by
 obtain⟨s,rfl⟩:=h;rw[acY a]
theorem Cv (a b:List UInt8) (i:Nat) (h:cJ b i <+: cJ a i):cJ (uR a b.length) i=cJ b i:=by
 apply adt;intro t;have f:(a.take b.length).length<=b.length:=by rw[ac2];omega
 rw[sG]
 by_cases e:t<(cJ b i).length
 ·have d:=RA h e;have c:=iH b i;rw[<-d,sG,o6 (by omega),o6 (by omega)];unfold uR;have j:32*i+t<a.length:=by
   have:=h.length_le;have:=iH a i;omega
  rw[I5 (by simp;omega),o6 (by rw[ac2];omega),Nat.sub_zero,adn,o6 (by omega)]
 ·have c:=iH b i;rw[ac3 (by omega:(cJ b i).length<=t)];split
  ·rw[ac3 (by rw[p9];omega)]
  ·rfl
def vS (b:List UInt8):List Nat->Nat
 | []=>0
 | i::l=>(cJ b i).length+vS b l
theorem DG (b:List UInt8):∀(p:Int) (l:List Nat),vS b l+l.length<=(ri b p l).length
 | p,[]=>by simp[vS,ri]
 | p,i::l=>by
  have a:=DG b i l;have c:=jU (zz (i-p));simp only[vS,ri,yo,xo];omega
theorem FK (b:List UInt8):∀(l m:List Nat),vS b (l++m)=vS b l+vS b m
 | [],m=>by simp[vS]
 | i::l,m=>by simp only[acW,vS,FK b l m];omega
theorem Cw (a b:List UInt8):∀k:Nat,min (32*k) b.length<=min (32*k) a.length+vS b ((List.range k).filter (nN a b))
 | 0=>by simp
 | k+1=>by
  have c:=Cw a b k;have hb:=iH b k;rw[List.range_succ,List.filter_append,FK];cases e:nN a b k with
  | true =>
   simp only[List.filter_cons,e,adk,List.filter_nil,vS];omega
  | false =>
   have h:cJ b k <+: cJ a k:=by simpa[nN] using e
   have f:=h.length_le;have d:=iH a k;simp only[List.filter_cons,e,List.filter_nil];simp only[acZ,adz,vS];omega
theorem RD (a b:List UInt8):b.length<=a.length+(ri b (-1) (gT a b)).length:=by
 have c:=Cw a b (dG b.length);have d:=DG b (-1) (gT a b);have f:b.length<=32*dG b.length:=by unfold dG;omega
 have e:vS b ((List.range (dG b.length)).filter (nN a b))=vS b (gT a b):=rfl;omega
theorem Cx (a b:List UInt8) (c:a.length<=268435456):p8 (cI a b)=some (((a.length:Int),jw a),lR [(b.length:Int),jw b,((gT a b).length:Int)]++ri b (-1) (gT a b)):=by
 have d:=js a;have e:cI a b=bN (zz (a.length:Int))++(bN (zz (jw a))++(lR [(b.length:Int),jw b,((gT a b).length:Int)]++ri b (-1) (gT a b))):=by
  simp only[cI,p7,lR,acM]
 unfold p8;rw[e,aD (ju _ _ (by omega) (by omega)),aD (ju _ _ (by omega) (by omega))];rfl
theorem xJ (a b:List UInt8) (d:a.length<=268435456) (hb:b.length<=268435456):oC a (cI a b)=(b,0):=by
 have l:=js b;have c:(gT a b).length<=268435456:=by have:=yI a b;unfold dG at this;omega
 have j:pz a (lR [(b.length:Int),jw b,((gT a b).length:Int)]++ri b (-1) (gT a b))=some (b,[]):=by
  have e:lR [(b.length:Int),jw b,((gT a b).length:Int)]++ri b (-1) (gT a b)=bN (zz (b.length:Int))++(bN (zz (jw b))++(bN (zz ((gT a b).length:Int))++ri b (-1) (gT a b))):=by
   simp only[lR,acM,acX]
  unfold pz;rw[e,aD (ju _ _ (by omega) (by omega)),aD (ju _ _ (by omega) (by omega)),aD (ju _ _ (by omega) (by omega))];unfold FH;have k:=RD a b;rw[o6 ⟨⟨by omega,by omega⟩,by omega⟩];refine I6 b hb (gT a b) (-1) (uR a b.length) (by omega) (ND a b) (fun i hi=>wM hi) (by omega) (p9 a b.length) fun i hi f=>?_;refine Cv a b i ?_;have:¬(nN a b i=true):=fun h=>f (by simp only[gT,List.mem_filter,List.mem_range];exact⟨hi,h⟩);simpa[nN] using this
 unfold oC;rw[Cx a b d];simp only[];rw[s8 (by simp),j];simp
theorem FL (c a b:List UInt8) (d:a.length<=268435456) (h:a.length≠c.length\/jw a≠jw c):oC c (cI a b)=([],17):=by
 unfold oC;rw[Cx a b d];simp only[];rw[o6 (by rcases h with h | h;exact .inl (by omega);exact .inr h)]
end Go.Fr.Tryz
namespace Go.Fr.Tryz
open Go Go.RowKit Go.Proofs Go.Fr Go.Fr.T Go.Fr.Api Go.Fr.Dm
def uS:Wd:=⟨[⟨true,-1,.mk 2 2 0 0 [] false [] []⟩],[],[⟨0,[⟨1,0,0,0,0,[.mk 1 0 0 (-3) [] false [] [],.mk 6 0 0 0 [] true [0,-1] [0]],[4,5]⟩],[⟨0,1,false,true,false⟩],0,6,2,[]⟩],[[]],[⟨0,7⟩],1,0,0⟩
theorem t20:CallsT PZ 20 [] [] (gL [] (.agg (q9 [] [] 0 uS))):=by
 refine au Tryz.func20 PU rfl fun a _=>?_;exact aM rfl rfl
theorem Az {z:Nat}(h:z<128):bN z=[UInt8.ofNat z]:=by rw[bN,dif_pos h]
def lF:List UInt8:=[76,83,1,0,0,0,0,0,0,0,0]
theorem abN:kg w0=lF++l8 lF:=by
 have h:mQ kW w0=([0,0,0,0,0,0,0,0],true):=by
  simp[w0,mQ,bI,aL,br,wJ,kW,zz,Az]
 simp[kg,h,fV,cB,lF]
def r9:List UInt8:=[2,2,1,4,4,0,0,0,0,0,0,0,2,0,2,2,0,0,0,0,4,2,0,0,5,0,0,0,0,12,0,0,0,0,2,4,0,1,2,0,4,8,10,2,0,2,0,2,0,0,12,4,0,2,0,2,0,14,2,0,0]
theorem NE:mQ kW uS=(r9,true):=by
 simp[uS,r9,mQ,bI,aL,br,wJ,kW,zz,Az,Fp,Iy,iS,Du,Fq,Fs,GU,F9,oQ,ni,vN,sj]
theorem XD:kg uS=fV (cB++r9):=by
 unfold kg;rw[NE,o6 rfl]
theorem abO:oH r9=some uS:=by rfl
theorem Km (b:List UInt8):(fV b).take ((fV b).length-4)=b:=by
 have h:(fV b).length-4=b.length:=by simp[fV,l8]
 rw[h];simp[fV]
theorem NF (x:List UInt8):l9 (fV (cB++x))=match oH x with | some y=>(some y,0) | none=>(none,16):=by
 have c:¬(fV (cB++x)).length<7:=by simp[fV,l8,cB]
 have b:cB <+: fV (cB++x):=⟨x++l8 (cB++x),by simp[fV]⟩;have a:(cB++x).drop 3=x:=by simp[cB]
 unfold l9;rw[s8 (fun h=>h.elim c (fun h=>h b)),Km,s8 (fun h=>h rfl),a];cases oH x<;>rfl
theorem abP:l9 (kg uS)=(some uS,0):=by rw[XD,NF,abO]
def Ao:List UInt8:=lF++[0,0,0,0]
theorem abQ:l9 Ao=(none,17):=by
 have a:Ao.take (Ao.length-4)=lF:=rfl;have b:¬fV lF=Ao:=by
  intro h;have c:l8 lF=[0,0,0,0]:=by
   have:=List.append_cancel_left (h:lF++l8 lF=lF++[0,0,0,0]);exact this
  exact s6 c (by decide)
 unfold l9;rw[s8 (fun h=>h.elim (by decide) (fun h=>h ⟨[0,0,0,0,0,0,0,0,0,0,0,0],rfl⟩)),a,o6 b]
def fo:List UInt8:=List.replicate 40 1
def sH:List UInt8:=fo.set 39 2
theorem abR:gT fo sH=[1]:=by decide
theorem Vh:jw fo≠jw sH:=by decide
theorem NG:cI fo sH=bN (zz 40)++bN (zz (jw fo))++bN (zz 40)++bN (zz (jw sH))++[2,4]++[1,1,1,1,1,1,1,2]:=by
 have a:bN (zz 1)=[2]:=Az (by decide);have b:bN (zz (((1:Nat):Int) - -1))=[4]:=Az (by decide);have e:cJ sH 1=[1,1,1,1,1,1,1,2]:=by decide
 have c:(fo.length:Int)=40:=by decide
 have f:(sH.length:Int)=40:=by decide
 have d:(([1]:List Nat).length:Int)=1:=rfl;simp only[cI,p7,abR,lR,ri,c,f,d,a,b,e,acM,acT,acX,acW]
theorem pat1:oC fo (cI fo sH)=(sH,0):=xJ _ _ (by decide) (by decide)
theorem pat2:oC sH (cI fo sH)=([],17):=FL sH fo sH (by decide) (.inr Vh)
def im0:uQ:=⟨[],[],0⟩
def Wi:uQ:=⟨[],[],5⟩
theorem XE:DF Wi Wi uS uS=true:=by unfold DF;rw[<-dJ rfl];simp
theorem XF:DF Wi im0 uS uS=false:=by
 unfold DF;rw[<-aH (by intro h;injection h with _ _ h;cases h)];rfl
theorem abS:Ga w0:=by simp[Ga,w0]
theorem NH:Ga uS:=by simp[Ga,uS,Yk,tkB,acB,vsB,GV,Ft]
theorem NI {a d:List UInt8}(h:p8 d=none):oC a d=([],16):=by unfold oC;rw[h]
theorem NJ {a d r:List UInt8}{n s:Int}(h:p8 d=some ((n,s),r)) (k:n≠a.length\/s≠jw a):oC a d=([],17):=by
 unfold oC;rw[h];simp only[];rw[o6 k]
theorem Vi {a d r:List UInt8}{n s:Int}(h:p8 d=some ((n,s),r)) (c:n=a.length) (b:s=jw a) (e:pz a r=none):oC a d=([],16):=by
 unfold oC;rw[h];simp only[];rw[s8 (fun k=>k.elim (fun k=>k c) (fun k=>k b)),e]
theorem Vj {a d r c out:List UInt8}{n s:Int}(h:p8 d=some ((n,s),r)) (f:n=a.length) (b:s=jw a) (e:pz a r=some (out,c)):oC a d=if cI a out=d then(out,0) else([],16):=by
 unfold oC;rw[h];simp only[];rw[s8 (fun k=>k.elim (fun k=>k f) (fun k=>k b)),e]
theorem NK {d r:List UInt8}{p:Int×Int}(h:p8 d=some (p,r)):r.length<=d.length:=by
 obtain⟨x,e,b,h⟩:=lz h;obtain⟨y,a,c,h⟩:=lz h;have f:=(j6 b).2;have j:=(j6 c).2;have h:some ((x,y),a)=some (p,r):=h;injection h with h;injection h with _ h
 rw[<-h];omega
set_option maxRecDepth 20000 in
theorem t12 (a d:List UInt8) (y:a.length<=268435456) (hb:d.length<=268435456) :
  CallsT PZ 12 [.sl (ah a),.sl (ah d)] [] (gL [] (.tup [.sl (ah (oC a d).1),IC (oC a d).2])):=by
 have h:(ah a).length=a.length:=aG;have h1:=abL d;have o:=@NI a d;have k:=@NJ a d;have m:=@Vi a d;have l:=@Vj a d;have q5:=@NK d;generalize oC a d=pd at o k m l ⊢;refine au Tryz.func12 PE rfl fun hw t=>?_;refine cO [6,12,7,8] h1 rfl rfl rfl rfl ?_;rintro v Mo (⟨n,s,r,e,rfl,rfl⟩ | ⟨e,⟨x,u,w,p4,rfl⟩,rfl⟩) _ _
 ·refine⟨rfl,?_⟩;have z:=q5 e;have q:=abK a r y (by omega);refine aj (fun b=>?_) (fun b=>?_)
  ·have b:(!decide (n=((ah a).length:Int)))=true:=b;have b:n≠a.length:=by rw[h] at b;simpa using b
   exact aM rfl (by rw[k e (.inl b)];rfl)
  have b:(!decide (n=((ah a).length:Int)))=false:=b;have b:n=a.length:=by rw[h] at b;simpa using b
  refine cR (Wg a) rfl fun _=>?_;refine aj (fun c=>?_) (fun c=>?_)
  ·have c:(!decide (s=jw a))=true:=c;exact aM rfl (by rw[k e (.inr (by simpa using c))];rfl)
  have c:(!decide (s=jw a))=false:=c;have c:s=jw a:=by simpa using c
  refine cO [6,12,9] q rfl rfl rfl rfl ?_;rintro v Mo (⟨out,r',j,rfl,rfl⟩ | ⟨j,⟨x,u,w,rfl⟩,rfl⟩) _ _
  ·refine⟨rfl,?_⟩;have ac:=FI j;refine bM (t18 a out (by omega) (by omega)) rfl fun _=>?_;refine bM (t31 (cI a out) d) rfl fun _=>?_;have p:=l e b c j;refine aj (fun f=>?_) (fun f=>?_)
   ·have f:(!decide (cI a out=d))=true:=f;exact aM rfl (by rw[p,s8 (by simpa using f)];rfl)
   ·have f:(!decide (cI a out=d))=false:=f;exact aM rfl (by rw[p,o6 (by simpa using f)];rfl)
  ·refine⟨rfl,?_⟩;exact aM rfl (by rw[m e b c j];rfl)
 ·refine⟨rfl,?_⟩;exact aM rfl (by rw[o e];rfl)
theorem tnf:¬(true=false):=by decide
theorem bc2 (a b:List UInt8):ah a++ah b=ah (a++b):=by simp[ah]
set_option maxRecDepth 100000 in
theorem t7:CallsT PZ 7 [] [] (gL [] (.bool true)):=by
 have u:CallsT PZ 14 [.agg (q9 [] [] 0 w0)] [] (gL [.row 5 1 (ah (kg w0))] (.rw 1000)):=t14 [] [] 0 w0 abS (by
  have:mQ kW w0=([0,0,0,0,0,0,0,0],true):=by simp[w0,mQ,bI,aL,br,wJ,kW,zz,Az]
  rw[this];decide)
 have f:CallsT PZ 14 [.agg (q9 [] [] 0 uS)] [] (gL [.row 5 1 (ah (kg uS))] (.rw 1000)):=t14 [] [] 0 uS NH (by rw[NE];decide);have ar:(kg uS).length<=70368744177664:=by rw[XD];simp[fV,l8,cB,r9]
 have r:CallsT PZ 10 [.agg [.sl [],.sl [],IC 5],.sl (ah (kg uS))] [] (gL [] (.tup [.agg (q9 [] [] 5 uS),IC 0])):=by
  have:=t10 [] [] 5 (kg uS) ar;rw[abP] at this;exact this
 have v:CallsT PZ 10 [.agg [.sl [],.sl [],IC 0],.sl (ah Ao)] [] (gL [] (.tup [.agg (q9 [] [] 0 w0),IC 17])):=by
  have:=t10 [] [] 0 Ao (by decide);rw[abQ] at this;exact this
 have e:=abN;generalize kg w0=k at u e;have a:(ah fo).set 39 [iX 2]=ah sH:=by simp[ah,sH,List.map_set]
 have h8:CallsT PZ 18 [.sl (ah fo),.sl ((ah fo).set 39 [iX 2])] [] (gL [] (.sl (ah (cI fo sH)))):=by
  rw[a];exact t18 fo sH (by decide) (by decide)
 have c:(cI fo sH).length<=268435456:=by
  have q1:=jt (jw fo) (by have:=js fo;omega) (by have:=js fo;omega);have q2:=jt (jw sH) (by have:=js sH;omega) (by have:=js sH;omega);have q3:(bN (zz 40)).length<=10:=jt 40 (by omega) (by omega);rw[NG];simp only[yo,xo,acV];omega
 have h7:CallsT PZ 12 [.sl (ah fo),.sl (ah (cI fo sH))] [] (gL [] (.tup [.sl (ah sH),IC 0])):=by
  have:=t12 fo (cI fo sH) (by decide) c;rw[pat1] at this;exact this
 have o:CallsT PZ 12 [.sl ((ah fo).set 39 [iX 2]),.sl (ah (cI fo sH))] [] (gL [] (.tup [.sl (ah []),IC 17])):=by
  have:=t12 sH (cI fo sH) (by decide) c;rw[pat2] at this;rw[a];exact this
 have n:CallsT PZ 23 [.sl ((ah fo).set 39 [iX 2])] [] (gL [] (IC (jw sH))):=by rw[a];exact Wg sH
 have b:=NG;have b1:=js fo;have b2:=js sH;have k1:CallsT PZ 22 [IC 40] [] (gL [.row 5 1 (ah (bN (zz 40)))] (.rw 1000)):=t22 40 (by omega) (by omega);have k2:=t22 (jw fo) (by omega) (by omega);have k3:=t22 (jw sH) (by omega) (by omega);have m1:(bN (zz 40)).length<=10:=jt 40 (by omega) (by omega);have m2:=jt (jw fo) (by omega) (by omega);have m3:=jt (jw sH) (by omega) (by omega);have d:(sF uS).length<=70368744177664:=acO (ac8 (by kernel_rfl:Nat.ble (sF uS).length 100000=true)) (by decide);have t:CallsT PZ 17 [.agg (q9 [] [] 5 uS),.agg (q9 [] [] 5 uS)] [] (gL [] (.bool true)):=by
  have:=t17 Wi Wi uS uS NH NH d d;rw[XE] at this;exact this
 have y:CallsT PZ 17 [.agg (q9 [] [] 5 uS),.agg (q9 [] [] 0 uS)] [] (gL [] (.bool false)):=by
  have:=t17 Wi im0 uS uS NH NH d d;rw[XF] at this;exact this
 have q:pD ⟨k.toArray⟩ ⟨(lF++l8 lF).toArray⟩=true:=by rw[fL,e];simp
 have s:∀x:List UInt8,pD ⟨x.toArray⟩ ⟨x.toArray⟩=true:=fun x=>by rw[fL];simp
 generalize bN (zz 40)=v1 at k1 m1 b c;generalize bN (zz (jw fo))=p at k2 m2 b c;generalize bN (zz (jw sH))=v3 at k3 m3 b c;generalize cI fo sH=dB at h8 h7 o b;generalize kg uS=ebE at f r;have m:CallsT PZ 21 [IC 40,iX 1] [] (gL [.row 5 1 (ah fo)] (.rw 1000)):=t21 40 1 (by decide);have l:=Wg fo;have ab:(ah fo).length=40:=by rw[aG];rfl
 have j:(ah fo)[39]?=some [iX 1]:=rfl;have w:=t24 lF
 clear c
 have an:(l8 lF).length=4:=rfl;generalize l8 lF=d4 at e q w an;obtain⟨zd,av,ay⟩:∃zd,ah lF++ah d4=ah zd/\pD ⟨k.toArray⟩ ⟨zd.toArray⟩=true:=⟨lF++d4,bc2 _ _,q⟩
 clear e q
 generalize jw fo=n1 at l k2 b1;generalize jw sH=n2 at n k3 b2;generalize sH=tb at a h7;generalize fo=fb at m l ab j a h8 h7 o n;have z:ah v1++ah p++ah v1++ah v3++ah [2,4]++ah [1,1,1,1,1,1,1,2]=ah dB:=by rw[b];simp only[bc2]
 obtain⟨d2,aE,az⟩:∃d2,ah v1++ah p++ah v1++ah v3++ah [2,4]++ah [1,1,1,1,1,1,1,2]=ah d2/\pD ⟨dB.toArray⟩ ⟨d2.toArray⟩=true:=⟨dB,z,s dB⟩;obtain⟨t2,ao,ap⟩:∃t2,(ah fb).set 39 [iX 2]=ah t2/\pD ⟨tb.toArray⟩ ⟨t2.toArray⟩=true:=⟨tb,a,s tb⟩
 clear b z
 refine au Tryz.func7 UG rfl fun hw _=>?_;refine callO [] [19] u rfl rfl rfl rfl rfl fun _ _=>?_;refine bM t20 rfl fun _=>?_;refine callO [] [23] f rfl rfl rfl rfl rfl fun _ _=>?_;refine vG [23] [] [] r ⟨_,rfl,rfl,rfl,rfl,rfl,fun _ _=>?_⟩;refine bM t20 rfl fun _=>?_;refine⟨Nat.succ_pos 3,dM (bs:=lF),?_⟩;refine m9 (bs:=[0,0,0,0]) 11 rfl (by decide) ?_;refine vG [34] [] [] v ⟨_,rfl,rfl,rfl,rfl,rfl,fun _ _=>?_⟩;refine callO [] [38] m rfl rfl rfl rfl rfl fun _ _=>?_;refine callO [] [39] m rfl rfl rfl rfl rfl fun _ _=>?_;refine Yb.mk (by decide) (by rw[ab];decide) ?_;refine⟨rfl,?_⟩;refine Nt (es0:=[iX 1]) j rfl ?_;refine vG [38,39] [] [] h8 ⟨_,rfl,rfl,rfl,rfl,rfl,fun _ _=>?_⟩;refine bM h7 rfl fun _=>?_;refine bM o rfl fun _=>?_;refine callO [] [57] k1 rfl rfl rfl rfl rfl fun _ _=>?_;refine bM l rfl fun _=>?_;refine callO [] [60] k2 rfl rfl rfl rfl rfl fun _ _=>?_;refine m9 (bs:=p) v1.length aG (by omega) ?_;refine callO [] [62] k1 rfl rfl rfl rfl rfl fun _ _=>?_;refine m9 (bs:=v1) (v1.length+p.length) (sn aG aG) (by omega) ?_;refine bM n rfl fun _=>?_;refine callO [] [66] k3 rfl rfl rfl rfl rfl fun _ _=>?_;refine m9 (bs:=v3) (v1.length+p.length+v1.length) (sn (sn aG aG) aG) (by omega) ?_;refine m9 (bs:=[2,4]) (v1.length+p.length+v1.length+v3.length) (sn (sn (sn aG aG) aG) aG) (by simp only[xo,acV];omega) ?_;refine fP.mk ⟨k,rfl,?_⟩;refine⟨Nat.succ_pos 10,dM (bs:=[]),?_⟩;refine m9 (bs:=lF) 0 rfl (by decide) ?_;refine cR w rfl fun _=>?_;refine m9 (bs:=d4) 11 rfl (by omega) ?_;refine fP.mk ⟨zd,av,?_⟩;refine aj (fun _=>?_) (fun h=>s6 (ay.symm.trans h) tnf);refine cR t rfl fun _=>?_;refine cR t20 rfl fun _=>?_;refine cR y rfl fun _=>?_;refine fP.mk ⟨dB,rfl,?_⟩;refine m9 (bs:=[1,1,1,1,1,1,1,2]) (v1.length+p.length+v1.length+v3.length+2) (sn (sn (sn (sn aG aG) aG) aG) rfl) (by simp only[xo,acV];omega) ?_;refine fP.mk ⟨d2,aE,?_⟩;refine aj (fun _=>?_) (fun h=>s6 (az.symm.trans h) tnf);refine fP.mk ⟨tb,rfl,?_⟩;refine fP.mk ⟨t2,ao,?_⟩;refine aj (fun _=>?_) (fun h=>s6 (ap.symm.trans h) tnf);exact aM rfl rfl
end Go.Fr.Tryz
namespace Go.Fr.Tryz
open Go Go.RowKit Go.Proofs Go.Fr Go.Fr.T Go.Fr.Api
theorem lM {p:Prop}[Decidable p] (h:(!decide p)=true):¬p:=by simpa using h
theorem qV {p:Prop}[Decidable p] (h:(!decide p)=false):p:=by simpa using h
theorem xV {p:Prop}(h:(!Cr p)=true):¬p:=lu (by simpa using h)
theorem xW {p:Prop}(h:(!Cr p)=false):p:=kH (by simpa using h)
theorem oD {a:Type}{f:a->List C}{l:List a}(h:Wf (.sl (l.map f))) {x:a}(b:x∈l):tE (f x):=by
 simp only[Wf] at h;exact ES.1 h.2 _ (adi.2 ⟨x,b,rfl⟩)
theorem bL {a:Type}{f:a->List C}{l:List a}:(l.map f).length=l.length:=by simp
theorem wO {l:List Int}:(oO l).length=l.length:=by simp[oO]
theorem iI {c d:Type}{f:c->List C}{g:d->List C}{a:List c}{b:List d}(h:(!decide (((a.map f).length:Int)=((b.map g).length:Int)))=false):a.length=b.length:=by
 have q:=qV h;rw[bL,bL] at q;omega
theorem NM {a b:List Int}(h:(!decide (((oO a).length:Int)=((oO b).length:Int)))=false):a.length=b.length:=by
 have q:=qV h;rw[wO,wO] at q;omega
theorem jJ {a b:Nat}(h:¬(a:Int)=b):¬a=b:=fun e=>h (by rw[e])
theorem Tf:∀(n:Nat) (x y:Ty),SizeOf.sizeOf x<n->dY 116 [Bp x,Bp y] (x=y)
 | 0,x,y,h=>s6 h (by omega)
 | n+1,x,y,h=>by
  have ih:∀z∈x.args,∀w,dY 116 [Bp z,Bp w] (z=w):=fun z hz w=>Tf n z w (by have:=Nx hz;omega);refine au Tryz.func116 Mq rfl fun hw _=>?_;have p:Wf (.sl (x.args.map tW)):=by have h:=hw.1;simp only[Bp,Wf,tE] at h;exact h.2.2.1
  refine aj (fun r=>?_) (fun r=>?_)
  ·exact aM rfl (j3 C.bool (aH fun e=>(lM r) (by rw[e])))
  refine aj (fun s=>?_) (fun s=>?_)
  ·exact aM rfl (j3 C.bool (aH fun e=>(lM s) (by rw[e])))
  refine aj (fun o=>?_) (fun o=>?_)
  ·exact aM rfl (j3 C.bool (aH fun e=>(jJ (by have q:=lM o;rwa [bL,bL] at q)) (by rw[e])))
  have o:=iI o;refine aP x.args.length 5 [] () (fun _=>[]) (fun _=>[]) (fun k _=>∀j<k,x.args[j]?=y.args[j]?) (fun j u=>s6 u (by omega)) (af rfl) trivial trivial ?_;rintro m ⟨⟩ v c _ _ _;refine aF (fun a=>?_) (fun f=>?_)
  ·have a:m<x.args.length:=by rw[bL] at a;omega
   have ad:=bw p;obtain⟨xA,b⟩:=aO a;obtain⟨yA,d⟩:=aO (l:=y.args) (k:=m) (by omega);refine xu b ?_;refine xu d ?_;refine cR (ih xA (acS b) yA) rfl fun _=>?_;refine aj (fun t=>?_) (fun t=>?_)
   ·exact aM rfl (j3 C.bool (aH fun e=>cP b d (xV t) (by rw[e])))
   refine bf ?_;exact⟨(m+1,()),⟨a,cu c b d (xW t)⟩,⟨aR,trivial⟩,trivial,aS a⟩
  ·have f:¬m<x.args.length:=by rw[bL] at f;omega
   have eA:x.args=y.args:=ct (n:=m) (by omega) (by omega) c;exact aM rfl (j3 C.bool (dJ (Tc (qV r) (qV s) eA)))
theorem Vk (x y:Ty):dY 116 [Bp x,Bp y] (x=y):=Tf _ x y (adF _)
theorem Vm (a b:List Ty):dY 115 [.sl (a.map tW),.sl (b.map tW)] (a=b):=by
 refine au Tryz.func115 Mp rfl fun u _=>?_;refine aj (fun p=>?_) (fun p=>?_)
 ·exact aM rfl (j3 C.bool (aH fun e=>(jJ (by have q:=lM p;rwa [bL,bL] at q)) (by rw[e])))
 have p:=iI p;refine aP a.length 5 [] () (fun _=>[]) (fun _=>[]) (fun k _=>∀j<k,a[j]?=b[j]?) (fun j s=>s6 s (by omega)) (af rfl) trivial trivial ?_;rintro o ⟨⟩ t d _ _ _;refine aF (fun c=>?_) (fun m=>?_)
 ·have c:o<a.length:=by rw[bL] at c;omega
  have w:=bw u.1;obtain⟨v,f⟩:=aO c;obtain⟨y,h⟩:=aO (l:=b) (k:=o) (by omega);refine xu f ?_;refine xu h ?_;refine cR (Vk v y) rfl fun _=>?_;refine aj (fun r=>?_) (fun r=>?_)
  ·exact aM rfl (j3 C.bool (aH fun e=>cP f h (xV r) (by rw[e])))
  refine bf ?_;exact⟨(o+1,()),⟨c,cu d f h (xW r)⟩,⟨aR,trivial⟩,trivial,aS c⟩
 ·have m:¬o<a.length:=by rw[bL] at m;omega
  have x:a=b:=ct (n:=o) (by omega) (by omega) d;exact aM rfl (j3 C.bool (dJ x))
theorem Vn (a b:List Int):dY 117 [.sl (oO a),.sl (oO b)] (a=b):=by
 refine au Tryz.func117 Mr rfl fun u _=>?_;refine aj (fun p=>?_) (fun p=>?_)
 ·exact aM rfl (j3 C.bool (aH fun e=>(jJ (by have q:=lM p;rwa [wO,wO] at q)) (by rw[e])))
 have p:=NM p;refine aP a.length 5 [] () (fun _=>[]) (fun _=>[]) (fun k _=>∀j<k,a[j]?=b[j]?) (fun j s=>s6 s (by omega)) (af rfl) trivial trivial ?_;rintro o ⟨⟩ t d _ _ _;refine aF (fun c=>?_) (fun m=>?_)
 ·have c:o<a.length:=by rw[wO] at c;omega
  have v:=(bw u.1:a.length<=_);obtain⟨x,f⟩:=aO c;obtain⟨y,h⟩:=aO (l:=b) (k:=o) (by omega);refine wG f ?_;refine wG h ?_;refine aj (fun r=>?_) (fun r=>?_)
  ·exact aM rfl (j3 C.bool (aH fun e=>cP f h (lM r) (by rw[e])))
  refine bf ?_;exact⟨(o+1,()),⟨c,cu d f h (qV r)⟩,⟨aR,trivial⟩,trivial,aS c⟩
 ·have m:¬o<a.length:=by rw[wO] at m;omega
  have w:a=b:=ct (n:=o) (by omega) (by omega) d;exact aM rfl (j3 C.bool (dJ w))
theorem t91 (x y:Api.Data):dY 91 [.agg (iC x),.agg (iC y)] (x=y):=by
 refine au Tryz.func91 QS rfl fun hw _=>?_;have r:Wf (.sl (x.variants.map fK)):=by have h:=hw.1;simp only[iC,Wf,tE] at h;simp only[Wf];exact h.2.2.2.1
 refine aj (fun u=>?_) (fun u=>?_)
 ·exact aM rfl (j3 C.bool (aH fun e=>(lM u) (by rw[e])))
 refine aj (fun v=>?_) (fun v=>?_)
 ·exact aM rfl (j3 C.bool (aH fun e=>(lM v) (by rw[e])))
 refine aj (fun p=>?_) (fun p=>?_)
 ·exact aM rfl (j3 C.bool (aH fun e=>(lM p) (by rw[e])))
 refine aj (fun z=>?_) (fun z=>?_)
 ·exact aM rfl (j3 C.bool (aH fun e=>(lM z) (by rw[e])))
 refine aj (fun o=>?_) (fun o=>?_)
 ·exact aM rfl (j3 C.bool (aH fun e=>(jJ (by have q:=lM o;rwa [bL,bL] at q)) (by rw[e])))
 have o:=iI o;refine aP x.variants.length 5 [] () (fun _=>[]) (fun _=>[]) (fun k _=>∀j<k,x.variants[j]?=y.variants[j]?) (fun j hj=>s6 hj (by omega)) (af rfl) trivial trivial ?_;rintro m ⟨⟩ ab d _ _ _;refine aF (fun b=>?_) (fun f=>?_)
 ·have b:m<x.variants.length:=by rw[bL] at b;omega
  have ae:=bw r;obtain⟨xA,a⟩:=aO b;obtain⟨yA,c⟩:=aO (l:=y.variants) (k:=m) (by omega);refine bK a rfl rfl ?_;refine bK c rfl rfl ?_;refine aj (fun t=>?_) (fun t=>?_)
  ·exact aM rfl (j3 C.bool (aH fun e=>cP a c (fun s=>(lM t) (by rw[s])) (by rw[e])))
  refine bK a rfl rfl ?_;refine bK c rfl rfl ?_;refine cR (Vm xA.fields yA.fields) rfl fun _=>?_;refine aj (fun w=>?_) (fun w=>?_)
  ·exact aM rfl (j3 C.bool (aH fun e=>cP a c (fun s=>(xV w) (by rw[s])) (by rw[e])))
  refine bf ?_;exact⟨(m+1,()),⟨b,cu d a c (var_eq (tv (qV t)) (xW w))⟩,⟨aR,trivial⟩,trivial,aS b⟩
 ·have f:¬m<x.variants.length:=by rw[bL] at f;omega
  have eA:x.variants=y.variants:=ct (n:=m) (by omega) (by omega) d;exact aM rfl (j3 C.bool (dJ (IZ (tv (qV u)) (qV v) (qV p) (qV z) eA)))
theorem abV (x y:Ip):dY 136 [.agg (qG x),.agg (qG y)] (x=y):=by
 refine au Tryz.func136 MJ rfl fun k _=>?_;refine aF (fun j=>?_) (fun j=>aM rfl (j3 C.bool (aH fun e=>j (by rw[e]))));refine aF (fun a=>?_) (fun a=>aM rfl (j3 C.bool (aH fun e=>a (by rw[e]))));refine aF (fun b=>?_) (fun b=>aM rfl (j3 C.bool (aH fun e=>b (by rw[e]))));refine aF (fun d=>?_) (fun d=>aM rfl (j3 C.bool (aH fun e=>d (by rw[e]))));refine aF (fun c=>?_) (fun c=>aM rfl (j3 C.bool (aH fun e=>c (by rw[e]))));refine bM (Vn x.args y.args) rfl fun _=>?_;refine aj (fun f=>?_) (fun f=>aM rfl (j3 C.bool (aH fun e=>lu f (by rw[e]))));refine bM (Vm x.types y.types) rfl fun _=>?_;exact aM rfl (j3 C.bool (iF ⟨fun h=>Nz j a b d c (kH f) h,fun e=>by rw[e]⟩))
theorem abW (a b:List Block):dY 118 [.sl (a.map iQ),.sl (b.map iQ)] (a=b):=by
 refine au Tryz.func118 Ms rfl fun hw _=>?_;refine aj (fun y=>?_) (fun y=>?_)
 ·exact aM rfl (j3 C.bool (aH fun e=>(jJ (by have q:=lM y;rwa [bL,bL] at q)) (by rw[e])))
 have y:=iI y;refine aP a.length 5 [] () (fun _=>[]) (fun _=>[]) (fun k _=>∀j<k,a[j]?=b[j]?) (fun j hj=>s6 hj (by omega)) (af rfl) trivial trivial ?_;rintro x ⟨⟩ ao o _ _ _;refine aF (fun h=>?_) (fun v=>?_)
 ·have h:x<a.length:=by rw[bL] at h;omega
  have av:=bw hw.1;obtain⟨s,c⟩:=aO h;obtain⟨yA,d⟩:=aO (l:=b) (k:=x) (by omega);have ad:Wf (.sl (s.code.map qG)):=(oD hw.1 (acS c)).1;refine bK c rfl rfl ?_;refine bK d rfl rfl ?_;refine aj (fun z=>?_) (fun z=>?_)
  ·exact aM rfl (j3 C.bool (aH fun e=>cP c d (fun m=>(jJ (by have q:=lM z;rwa [bL,bL] at q)) (by rw[m])) (by rw[e])))
  have z:=iI z;refine bK c rfl rfl ?_;refine bK d rfl rfl ?_;refine aj (fun h2=>?_) (fun h2=>?_)
  ·exact aM rfl (j3 C.bool (aH fun e=>cP c d (fun m=>(lM h2) (by rw[m])) (by rw[e])))
  refine bK c rfl rfl ?_;refine bK d rfl rfl ?_;refine aj (fun h3=>?_) (fun h3=>?_)
  ·exact aM rfl (j3 C.bool (aH fun e=>cP c d (fun m=>(lM h3) (by rw[m])) (by rw[e])))
  refine bK c rfl rfl ?_;refine bK d rfl rfl ?_;refine cR (Vn s.fin.targets yA.fin.targets) rfl fun _=>?_;refine aj (fun h4=>?_) (fun h4=>?_)
  ·exact aM rfl (j3 C.bool (aH fun e=>cP c d (fun m=>(xV h4) (by rw[m])) (by rw[e])))
  refine aP s.code.length 6 [] () (fun _=>[]) (fun _=>[]) (fun k _=>∀j<k,s.code[j]?=yA.code[j]?) (fun j hj=>s6 hj (by omega)) (af rfl) trivial trivial ?_;rintro w ⟨⟩ am p _ _ _;refine bK c rfl rfl ?_;refine aF (fun f=>?_) (fun u=>?_)
  ·have f:w<s.code.length:=by rw[bL] at f;omega
   have ar:=bw ad;obtain⟨xB,r⟩:=aO f;obtain⟨yB,t⟩:=aO (l:=yA.code) (k:=w) (by omega);refine bK c rfl rfl ?_;refine bK r rfl rfl ?_;refine bK d rfl rfl ?_;refine bK t rfl rfl ?_;refine cR (abV xB yB) rfl fun _=>?_;refine aj (fun h5=>?_) (fun h5=>?_)
   ·exact aM rfl (j3 C.bool (aH fun e=>cP c d (fun m=>cP r t (xV h5) (by rw[m])) (by rw[e])))
   refine bf ?_;exact⟨(w+1,()),⟨f,cu p r t (xW h5)⟩,⟨aR,trivial⟩,trivial,aS f⟩
  ·have u:¬w<s.code.length:=by rw[bL] at u;omega
   have eB:s.code=yA.code:=ct (n:=w) (by omega) (by omega) p;refine bf ?_;exact⟨(x+1,()),⟨h,cu o c d (FC eB (qV h2) (qV h3) (xW h4))⟩,⟨aR,trivial⟩,trivial,aS h⟩
 ·have v:¬x<a.length:=by rw[bL] at v;omega
  have eA:a=b:=ct (n:=x) (by omega) (by omega) o;exact aM rfl (j3 C.bool (dJ eA))
theorem t119 (a b:List Slot):dY 119 [.sl (a.map i9),.sl (b.map i9)] (a=b):=by
 refine au Tryz.func119 Mt rfl fun hw _=>?_;refine aj (fun z=>?_) (fun z=>?_)
 ·exact aM rfl (j3 C.bool (aH fun e=>(jJ (by have q:=lM z;rwa [bL,bL] at q)) (by rw[e])))
 have z:=iI z;refine aP a.length 5 [] () (fun _=>[]) (fun _=>[]) (fun k _=>∀j<k,a[j]?=b[j]?) (fun j hj=>s6 hj (by omega)) (af rfl) trivial trivial ?_;rintro x ⟨⟩ ap o _ _ _;refine aF (fun m=>?_) (fun v=>?_)
 ·have m:x<a.length:=by rw[bL] at m;omega
  have aw:=bw hw.1;obtain⟨s,c⟩:=aO m;obtain⟨yA,d⟩:=aO (l:=b) (k:=x) (by omega);have ae:Wf (.sl (s.lent.map Au)):=(oD hw.1 (acS c)).2.2.2.2.2.2.1;refine bK c rfl rfl ?_;refine bK d rfl rfl ?_;refine aj (fun h1=>?_) (fun h1=>?_)
  ·exact aM rfl (j3 C.bool (aH fun e=>cP c d (fun h=>(lM h1) (by rw[h])) (by rw[e])))
  refine bK c rfl rfl ?_;refine bK d rfl rfl ?_;refine cR (Vk s.type yA.type) rfl fun _=>?_;refine aj (fun h2=>?_) (fun h2=>?_)
  ·exact aM rfl (j3 C.bool (aH fun e=>cP c d (fun h=>(xV h2) (by rw[h])) (by rw[e])))
  refine bK c rfl rfl ?_;refine bK d rfl rfl ?_;refine aj (fun h3=>?_) (fun h3=>?_)
  ·exact aM rfl (j3 C.bool (aH fun e=>cP c d (fun h=>(lM h3) (by rw[h])) (by rw[e])))
  refine bK c rfl rfl ?_;refine bK d rfl rfl ?_;refine aj (fun h4=>?_) (fun h4=>?_)
  ·exact aM rfl (j3 C.bool (aH fun e=>cP c d (fun h=>(lM h4) (by rw[h])) (by rw[e])))
  refine bK c rfl rfl ?_;refine bK d rfl rfl ?_;refine aj (fun y=>?_) (fun y=>?_)
  ·exact aM rfl (j3 C.bool (aH fun e=>cP c d (fun h=>(jJ (by have q:=lM y;rwa [bL,bL] at q)) (by rw[h])) (by rw[e])))
  have y:=iI y;refine aP s.lent.length 6 [] () (fun _=>[]) (fun _=>[]) (fun k _=>∀j<k,s.lent[j]?=yA.lent[j]?) (fun j hj=>s6 hj (by omega)) (af rfl) trivial trivial ?_;rintro w ⟨⟩ an p _ _ _;refine bK c rfl rfl ?_;refine aF (fun f=>?_) (fun u=>?_)
  ·have f:w<s.lent.length:=by rw[bL] at f;omega
   have av:=bw ae;obtain⟨xB,r⟩:=aO f;obtain⟨yB,t⟩:=aO (l:=yA.lent) (k:=w) (by omega);refine bK c rfl rfl ?_;refine bK r rfl rfl ?_;refine bK d rfl rfl ?_;refine bK t rfl rfl ?_;refine aj (fun h6=>?_) (fun h6=>?_)
   ·exact aM rfl (j3 C.bool (aH fun e=>cP c d (fun h=>cP r t ((fun e=>by subst e;simp[pA] at h6)) (by rw[h])) (by rw[e])))
   refine bf ?_;exact⟨(w+1,()),⟨f,cu p r t (by rcases xB with⟨⟩;rcases yB with⟨⟩;simp[pA] at h6;simp[h6])⟩,⟨aR,trivial⟩,trivial,aS f⟩
  ·have u:¬w<s.lent.length:=by rw[bL] at u;omega
   have eB:s.lent=yA.lent:=ct (n:=w) (by omega) (by omega) p;refine bf ?_;exact⟨(x+1,()),⟨m,cu o c d (I0 (qV h1) (xW h2) (qV h3) (qV h4) eB)⟩,⟨aR,trivial⟩,trivial,aS m⟩
 ·have v:¬x<a.length:=by rw[bL] at v;omega
  have eA:a=b:=ct (n:=x) (by omega) (by omega) o;exact aM rfl (j3 C.bool (dJ eA))
theorem t92 (x y:Ar):dY 92 [.agg (iJ x),.agg (iJ y)] (x=y):=by
 refine au Tryz.func92 QT rfl fun hw _=>?_;have r:Wf (.sl (x.entry.map oz)):=hw.1.2.2.2.2.2.2.2.2.1;refine aj (fun u=>?_) (fun u=>?_)
 ·exact aM rfl (j3 C.bool (aH fun e=>(lM u) (by rw[e])))
 refine bM (Vm x.params y.params) rfl fun _=>?_;refine aj (fun v=>?_) (fun v=>?_)
 ·exact aM rfl (j3 C.bool (aH fun e=>(xV v) (by rw[e])))
 refine bM (Vk x.result y.result) rfl fun _=>?_;refine aj (fun o=>?_) (fun o=>?_)
 ·exact aM rfl (j3 C.bool (aH fun e=>(xV o) (by rw[e])))
 refine bM (Vn x.ties y.ties) rfl fun _=>?_;refine aj (fun w=>?_) (fun w=>?_)
 ·exact aM rfl (j3 C.bool (aH fun e=>(xV w) (by rw[e])))
 refine aj (fun s=>?_) (fun s=>?_)
 ·exact aM rfl (j3 C.bool (aH fun e=>(lM s) (by rw[e])))
 refine bM (abW x.blocks y.blocks) rfl fun _=>?_;refine aj (fun t=>?_) (fun t=>?_)
 ·exact aM rfl (j3 C.bool (aH fun e=>(xV t) (by rw[e])))
 refine aj (fun m=>?_) (fun m=>?_)
 ·exact aM rfl (j3 C.bool (aH fun e=>(jJ (by have q:=lM m;rwa [bL,bL] at q)) (by rw[e])))
 have m:=iI m;refine aP x.entry.length 5 [] () (fun _=>[]) (fun _=>[]) (fun k _=>∀j<k,x.entry[j]?=y.entry[j]?) (fun j z=>s6 z (by omega)) (af rfl) trivial trivial ?_;rintro h ⟨⟩ aa b _ _ _;refine aF (fun a=>?_) (fun f=>?_)
 ·have a:h<x.entry.length:=by rw[bL] at a;omega
  have ad:=bw r;obtain⟨xA,c⟩:=aO a;obtain⟨yA,d⟩:=aO (l:=y.entry) (k:=h) (by omega);refine bK c rfl rfl ?_;refine bK d rfl rfl ?_;refine cR (t119 xA yA) rfl fun _=>?_;refine aj (fun p=>?_) (fun p=>?_)
  ·exact aM rfl (j3 C.bool (aH fun e=>cP c d (xV p) (by rw[e])))
  refine bf ?_;exact⟨(h+1,()),⟨a,cu b c d (xW p)⟩,⟨aR,trivial⟩,trivial,aS a⟩
 ·have f:¬h<x.entry.length:=by rw[bL] at f;omega
  have eA:x.entry=y.entry:=ct (n:=h) (by omega) (by omega) b;exact aM rfl (j3 C.bool (dJ (I3 (tv (qV u)) (xW v) (xW o) (xW w) (qV s) (xW t) eA)))
theorem t57 (x y:uQ):dY 57 [.agg (wN x),.agg (wN y)] (x=y):=by
 refine au Tryz.func57 Qt rfl fun hw _=>?_;have aa:Wf (.sl (x.datas.map iC)):=hw.1.1;have w:Wf (.sl (x.routs.map iJ)):=hw.1.2.1;refine aj (fun h0=>?_) (fun h0=>?_)
 ·exact aM rfl (j3 C.bool (aH fun e=>(lM h0) (by rw[e])))
 refine aj (fun v=>?_) (fun v=>?_)
 ·exact aM rfl (j3 C.bool (aH fun e=>(jJ (by have q:=lM v;rwa [bL,bL] at q)) (by rw[e])))
 have v:=iI v;refine aj (fun u=>?_) (fun u=>?_)
 ·exact aM rfl (j3 C.bool (aH fun e=>(jJ (by have q:=lM u;rwa [bL,bL] at q)) (by rw[e])))
 have u:=iI u;refine aP x.datas.length 5 [] () (fun _=>[]) (fun _=>[]) (fun k _=>∀j<k,x.datas[j]?=y.datas[j]?) (fun j z=>s6 z (by omega)) (af rfl) trivial trivial ?_;rintro t ⟨⟩ al c _ _ _;refine aF (fun b=>?_) (fun r=>?_)
 ·have b:t<x.datas.length:=by rw[bL] at b;omega
  have ap:=bw aa;obtain⟨xA,h⟩:=aO b;obtain⟨yA,o⟩:=aO (l:=y.datas) (k:=t) (by omega);refine bK h rfl rfl ?_;refine bK o rfl rfl ?_;refine cR (t91 xA yA) rfl fun _=>?_;refine aj (fun h3=>?_) (fun h3=>?_)
  ·exact aM rfl (j3 C.bool (aH fun e=>cP h o (xV h3) (by rw[e])))
  refine bf ?_;exact⟨(t+1,()),⟨b,cu c h o (xW h3)⟩,⟨aR,trivial⟩,trivial,aS b⟩
 ·have r:¬t<x.datas.length:=by rw[bL] at r;omega
  have eA:x.datas=y.datas:=ct (n:=t) (by omega) (by omega) c;refine aP x.routs.length 6 [] () (fun _=>[]) (fun _=>[]) (fun k _=>∀j<k,x.routs[j]?=y.routs[j]?) (fun j z=>s6 z (by omega)) (af rfl) trivial trivial ?_;rintro s ⟨⟩ ag d _ _ _;refine aF (fun a=>?_) (fun p=>?_)
  ·have a:s<x.routs.length:=by rw[bL] at a;omega
   have an:=bw w;obtain⟨xB,f⟩:=aO a;obtain⟨yB,m⟩:=aO (l:=y.routs) (k:=s) (by omega);refine bK f rfl rfl ?_;refine bK m rfl rfl ?_;refine cR (t92 xB yB) rfl fun _=>?_;refine aj (fun h4=>?_) (fun h4=>?_)
   ·exact aM rfl (j3 C.bool (aH fun e=>cP f m (xV h4) (by rw[e])))
   refine bf ?_;exact⟨(s+1,()),⟨a,cu d f m (xW h4)⟩,⟨aR,trivial⟩,trivial,aS a⟩
  ·have p:¬s<x.routs.length:=by rw[bL] at p;omega
   have eB:x.routs=y.routs:=ct (n:=s) (by omega) (by omega) d;exact aM rfl (j3 C.bool (dJ (NA (qV h0) eA eB)))
def Bq (f:Nat) (args:List C):Prop:=CallsT PZ f args [] (fun Mo v=>Mo=[]/\∃n:Int,v=IC n)
section
variable {L:TL}{ρ:bg}
theorem vT {f:Nat}{args a:List C}{K:TL->bg->C->Prop}(h:Bq f a) (b:(args.map fun c=>c.abk.ren (cn [] 1000))=a) (k:∀n:Int,K L ρ (IC n)):nA PZ f args L ρ K:=by
 subst b;exact .mk ⟨[],[],[],L,[],_,.inl rfl,rfl,rfl,rfl,rfl,rfl,h,fun v Mo ⟨d,n,e⟩ j _=>by subst d e;exact⟨rfl,k n⟩⟩
theorem uN {f:Nat}{args a:List C}{K:TL->bg->C->Prop}{d:Option Nat}(h:Bq f a) (b:(args.map fun c=>c.abk.ren (cn [] 1000))=a) (k:∀n:Int,K L ρ (IC n)):rM PZ f args L ρ d K:=by
 subst b;exact .frz _ h fun v Mo ⟨e,n,j⟩ l=>by subst e j;exact⟨rfl,k n⟩
theorem Aa {Lin:List TO}{v:C}(n:Int) (hb:aY Lin (List.range' 1000 Lin.length) []=true) (e:v.abF.ren (cn [] 1000)=IC n):o7 Lin L v (fun Mo v=>Mo=[]/\∃n:Int,v=IC n) :=
 ⟨[],[],L,v,v,[],rfl,.inl ⟨rfl,rfl⟩,rfl,rfl,hb,fun _=>⟨rfl,n,e⟩⟩
end
theorem XG:∀(n:Nat) (x:Ty) (l:Int),SizeOf.sizeOf x<n->Bq 72 [Bp x,IC l]
 | 0,x,l,h=>s6 h (by omega)
 | n+1,x,l,h=>by
  have o:∀z∈x.args,∀m,Bq 72 [Bp z,IC m]:=fun z r m=>XG n z m (by have:=Nx r;omega);refine au Tryz.func72 QJ rfl fun k _=>?_;have c:Wf (.sl (x.args.map tW)):=by have h:=k.1;simp only[Bp,Wf,tE] at h;exact h.2.2.1
  refine Fit.mk ?_;refine Fit.mk ?_;refine aP x.args.length 5 [1] (_:Int) (fun n=>[IC n]) (fun _=>[]) (fun _ _=>True) trivial (af rfl) ⟨af rfl,trivial⟩ trivial ?_;rintro e s j _ _ _ _;refine aF (fun a=>?_) (fun f=>?_)
  ·refine aF (fun d=>?_) (fun d=>?_)
   ·have a:e<x.args.length:=by rw[bL] at a;omega
    have q:=bw c;obtain⟨p,b⟩:=aO a;refine xu b ?_;refine vT (o p (acS b) _) rfl fun m=>?_;refine bf ?_;exact⟨(e+1,_),⟨a,trivial⟩,⟨aR,⟨af rfl,trivial⟩⟩,trivial,aS a⟩
   skip
   exact Aa _ rfl rfl
  ·skip
   exact Aa _ rfl rfl
theorem Ym (x:Ty) (l:Int):Bq 72 [Bp x,IC l]:=XG _ x l (adF _)
theorem t27 (a:List Ty) (l:Int):Bq 27 [.sl (a.map tW),IC l]:=by
 refine au Tryz.func27 P2 rfl fun o _=>?_;refine Fit.mk ?_;refine aP a.length 5 [1] (_:Int) (fun n=>[IC n]) (fun _=>[]) (fun _ _=>True) trivial (af rfl) ⟨af rfl,trivial⟩ trivial ?_;rintro e p j _ _ _ _;refine aF (fun b=>?_) (fun h=>?_)
 ·refine aF (fun d=>?_) (fun d=>?_)
  ·have b:e<a.length:=by rw[bL] at b;omega
   have f:=bw o.1;obtain⟨k,c⟩:=aO b;refine xu c ?_;refine vT (Ym k _) rfl fun m=>?_;refine bf ?_;exact⟨(e+1,_),⟨b,trivial⟩,⟨aR,⟨af rfl,trivial⟩⟩,trivial,aS b⟩
  skip
  exact Aa _ rfl rfl
 ·skip
  exact Aa _ rfl rfl
theorem t28 (x:Ar) (l:Int):Bq 28 [.agg (iJ x),IC l]:=by
 refine au Tryz.func28 P3 rfl fun hw _=>?_;have t:Wf (.sl (x.blocks.map iQ)):=hw.1.2.2.2.2.2.2.2.1;have j:Wf (.sl (x.entry.map oz)):=hw.1.2.2.2.2.2.2.2.2.1;refine Fit.mk ?_;refine Fit.mk ?_;refine Fit.mk ?_;refine Fit.mk ?_;refine uN (Ym x.result _) rfl fun m1=>?_;refine uN (t27 x.params _) rfl fun m2=>?_;refine aP x.blocks.length 5 [1] (_:Int) (fun n=>[IC n]) (fun _=>[]) (fun _ _=>True) trivial (af rfl) ⟨af rfl,trivial⟩ trivial ?_;rintro kA lA av _ _ _ _;refine aF (fun d=>?_) (fun ap=>?_)
 ·refine aF (fun ad=>?_) (fun ad=>?_)
  ·have d:kA<x.blocks.length:=by rw[bL] at d;omega
   have az:=bw t;obtain⟨xA,e⟩:=aO d;have z:Wf (.sl (xA.code.map qG)):=(oD t (acS e)).1;refine bK e rfl rfl ?_;refine Fit.mk ?_;refine bK e rfl rfl ?_;refine Fit.mk ?_;refine aP xA.code.length 6 [1] (_:Int) (fun n=>[IC n]) (fun _=>[]) (fun _ _=>True) trivial (af rfl) ⟨af rfl,trivial⟩ trivial ?_;rintro kB lB ar _ _ _ _;refine bK e rfl rfl ?_;refine aF (fun f=>?_) (fun ao=>?_)
   ·refine aF (fun ak=>?_) (fun ak=>?_)
    ·have f:kB<xA.code.length:=by rw[bL] at f;omega
     have ay:=bw z;obtain⟨xB,s⟩:=aO f;refine bK e rfl rfl ?_;refine bK s rfl rfl ?_;refine bK e rfl rfl ?_;refine bK s rfl rfl ?_;refine Fit.mk ?_;refine uN (t27 xB.types _) rfl fun m3=>?_;refine bf ?_;exact⟨(kB+1,_),⟨f,trivial⟩,⟨aR,⟨af rfl,trivial⟩⟩,trivial,aS f⟩
    skip
    refine bf ?_;exact⟨(kA+1,_),⟨d,trivial⟩,⟨aR,⟨af rfl,trivial⟩⟩,trivial,aS d⟩
   ·skip
    refine bf ?_;exact⟨(kA+1,_),⟨d,trivial⟩,⟨aR,⟨af rfl,trivial⟩⟩,trivial,aS d⟩
  skip
  refine aP x.entry.length 7 [1] (_:Int) (fun n=>[IC n]) (fun _=>[]) (fun _ _=>True) trivial (af rfl) ⟨af rfl,trivial⟩ trivial ?_;rintro k lC v _ _ _ _;refine aF (fun a=>?_) (fun ab=>?_)
  ·refine aF (fun q=>?_) (fun q=>?_)
   ·have a:k<x.entry.length:=by rw[bL] at a;omega
    have u:=bw j;obtain⟨o,b⟩:=aO a;have p:Wf (.sl (o.map i9)):=(oD j (acS b)).1;refine bK b rfl rfl ?_;refine Fit.mk ?_;refine aP o.length 8 [1] (_:Int) (fun n=>[IC n]) (fun _=>[]) (fun _ _=>True) trivial (af rfl) ⟨af rfl,trivial⟩ trivial ?_;rintro r lD y _ _ _ _;refine bK b rfl rfl ?_;refine aF (fun c=>?_) (fun w=>?_)
    ·refine aF (fun m=>?_) (fun m=>?_)
     ·have c:r<o.length:=by rw[bL] at c;omega
      have aa:=bw p;obtain⟨xD,h⟩:=aO c;refine bK b rfl rfl ?_;refine bK h rfl rfl ?_;refine bK b rfl rfl ?_;refine bK h rfl rfl ?_;refine Fit.mk ?_;refine uN (Ym xD.type _) rfl fun m3=>?_;refine bf ?_;exact⟨(r+1,_),⟨c,trivial⟩,⟨aR,⟨af rfl,trivial⟩⟩,trivial,aS c⟩
     skip
     refine bf ?_;exact⟨(k+1,_),⟨a,trivial⟩,⟨aR,⟨af rfl,trivial⟩⟩,trivial,aS a⟩
    ·skip
     refine bf ?_;exact⟨(k+1,_),⟨a,trivial⟩,⟨aR,⟨af rfl,trivial⟩⟩,trivial,aS a⟩
   skip
   exact Aa _ rfl rfl
  ·skip
   exact Aa _ rfl rfl
 ·skip
  refine aP x.entry.length 7 [1] (_:Int) (fun n=>[IC n]) (fun _=>[]) (fun _ _=>True) trivial (af rfl) ⟨af rfl,trivial⟩ trivial ?_;rintro k lC v _ _ _ _;refine aF (fun a=>?_) (fun ab=>?_)
  ·refine aF (fun q=>?_) (fun q=>?_)
   ·have a:k<x.entry.length:=by rw[bL] at a;omega
    have u:=bw j;obtain⟨o,b⟩:=aO a;have p:Wf (.sl (o.map i9)):=(oD j (acS b)).1;refine bK b rfl rfl ?_;refine Fit.mk ?_;refine aP o.length 8 [1] (_:Int) (fun n=>[IC n]) (fun _=>[]) (fun _ _=>True) trivial (af rfl) ⟨af rfl,trivial⟩ trivial ?_;rintro r lD y _ _ _ _;refine bK b rfl rfl ?_;refine aF (fun c=>?_) (fun w=>?_)
    ·refine aF (fun m=>?_) (fun m=>?_)
     ·have c:r<o.length:=by rw[bL] at c;omega
      have aa:=bw p;obtain⟨xD,h⟩:=aO c;refine bK b rfl rfl ?_;refine bK h rfl rfl ?_;refine bK b rfl rfl ?_;refine bK h rfl rfl ?_;refine Fit.mk ?_;refine uN (Ym xD.type _) rfl fun m3=>?_;refine bf ?_;exact⟨(r+1,_),⟨c,trivial⟩,⟨aR,⟨af rfl,trivial⟩⟩,trivial,aS c⟩
     skip
     refine bf ?_;exact⟨(k+1,_),⟨a,trivial⟩,⟨aR,⟨af rfl,trivial⟩⟩,trivial,aS a⟩
    ·skip
     refine bf ?_;exact⟨(k+1,_),⟨a,trivial⟩,⟨aR,⟨af rfl,trivial⟩⟩,trivial,aS a⟩
   skip
   exact Aa _ rfl rfl
  ·skip
   exact Aa _ rfl rfl
theorem t9 (x:uQ):CallsT PZ 9 [.agg (wN x)] [] (Such True):=by
 refine au Tryz.func9 UI rfl fun w _=>?_;have l:Wf (.sl (x.datas.map iC)):=w.1.1;have j:Wf (.sl (x.routs.map iJ)):=w.1.2.1;refine Fit.mk ?_;refine Fit.mk ?_;refine aP x.datas.length 4 [3] (_:Int) (fun n=>[IC n]) (fun _=>[]) (fun _ _=>True) trivial (af rfl) ⟨af rfl,trivial⟩ trivial ?_;rintro t lA ad _ _ _ _;refine aF (fun b=>?_) (fun ab=>?_)
 ·refine aF (fun s=>?_) (fun s=>?_)
  ·have b:t<x.datas.length:=by rw[bL] at b;omega
   have ak:=bw l;obtain⟨u,c⟩:=aO b;have p:Wf (.sl (u.variants.map fK)):=(oD l (acS c)).2.2.2.1;refine bK c rfl rfl ?_;refine Fit.mk ?_;refine bK c rfl rfl ?_;refine Fit.mk ?_;refine aP u.variants.length 5 [3] (_:Int) (fun n=>[IC n]) (fun _=>[]) (fun _ _=>True) trivial (af rfl) ⟨af rfl,trivial⟩ trivial ?_;rintro y lB ac _ _ _ _;refine bK c rfl rfl ?_;refine aF (fun d=>?_) (fun aa=>?_)
   ·refine aF (fun v=>?_) (fun v=>?_)
    ·have d:y<u.variants.length:=by rw[bL] at d;omega
     have ag:=bw p;obtain⟨xB,k⟩:=aO d;refine bK c rfl rfl ?_;refine bK k rfl rfl ?_;refine bK c rfl rfl ?_;refine bK k rfl rfl ?_;refine Fit.mk ?_;refine uN (t27 xB.fields _) rfl fun z=>?_;refine bf ?_;exact⟨(y+1,_),⟨d,trivial⟩,⟨aR,⟨af rfl,trivial⟩⟩,trivial,aS d⟩
    skip
    refine bf ?_;exact⟨(t+1,_),⟨b,trivial⟩,⟨aR,⟨af rfl,trivial⟩⟩,trivial,aS b⟩
   ·skip
    refine bf ?_;exact⟨(t+1,_),⟨b,trivial⟩,⟨aR,⟨af rfl,trivial⟩⟩,trivial,aS b⟩
  skip
  refine aP x.routs.length 6 [3] (_:Int) (fun n=>[IC n]) (fun _=>[]) (fun _ _=>True) trivial (af rfl) ⟨af rfl,trivial⟩ trivial ?_;rintro h lC o _ _ _ _;refine aF (fun a=>?_) (fun q=>?_)
  ·refine aF (fun f=>?_) (fun f=>?_)
   ·have a:h<x.routs.length:=by rw[bL] at a;omega
    have m:=bw j;obtain⟨r,e⟩:=aO a;refine bK e rfl rfl ?_;refine vT (t28 r _) rfl fun z=>?_;refine bf ?_;exact⟨(h+1,_),⟨a,trivial⟩,⟨aR,⟨af rfl,trivial⟩⟩,trivial,aS a⟩
   skip
   exact iR _ rfl rfl fun _=>trivial
  ·skip
   exact iR _ rfl rfl fun _=>trivial
 ·skip
  refine aP x.routs.length 6 [3] (_:Int) (fun n=>[IC n]) (fun _=>[]) (fun _ _=>True) trivial (af rfl) ⟨af rfl,trivial⟩ trivial ?_;rintro h lC o _ _ _ _;refine aF (fun a=>?_) (fun q=>?_)
  ·refine aF (fun f=>?_) (fun f=>?_)
   ·have a:h<x.routs.length:=by rw[bL] at a;omega
    have m:=bw j;obtain⟨r,e⟩:=aO a;refine bK e rfl rfl ?_;refine vT (t28 r _) rfl fun z=>?_;refine bf ?_;exact⟨(h+1,_),⟨a,trivial⟩,⟨aR,⟨af rfl,trivial⟩⟩,trivial,aS a⟩
   skip
   exact iR _ rfl rfl fun _=>trivial
  ·skip
   exact iR _ rfl rfl fun _=>trivial
end Go.Fr.Tryz
