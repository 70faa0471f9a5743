/-
  Parts of the proof: Pm18, Pm19, Pm20, Pm21, Pm22, Pm23, Pm24, Pm25, Pm26, Pm27, Pm28: the framework (Fw), pure forms (Dn), plain laws (Pl, Th), calls of functions (Ok).
-/
import Derived.Test.YtkhcdgkdpjahpaaGreatDoorB386e8355

set_option linter.all false
noncomputable section
namespace Go.mz
theorem atI {f:Int} (h:dw f≠2047):∃v,gw f=some v:=by
 have aA:=Mu f;have iH:=Rg f;unfold gw;rw[if_neg h];unfold hR;generalize ak:(if f<9223372036854775808 then if dw f=0 then hp f else hp f+4503599627370496 else-(if dw f=0 then hp f else hp f+4503599627370496))=m;have aa:aU m.natAbs<=53:=es.2 (by
  have:(2:Nat)^53=9007199254740992:=(by decide);rw[this];split at ak<;>split at ak<;>omega)
 split
 ·exact⟨_,rfl⟩
 ·rw[if_neg (by split<;>omega)];exact⟨_,rfl⟩
theorem as3 {y:Int}:te (some 0) (some y)=some 0:=by show hR (bQ 0*bQ y) _=some 0;rw[T4,Int.zero_mul];rfl
theorem as4 {y:Int}:te (some y) (some 0)=some 0:=by show hR (bQ y*bQ 0) _=some 0;rw[T4,Int.mul_zero];rfl
def xk (l:Nat->Nat->Int) (i j m:Nat):Option Int:=ED (te (gw (l m i)) (gw (l m j)))
def lU (A:Nat->Nat->Option Int) (l:Nat->Nat->Int) (j i:Nat):Option Int:=j5 (A i j::(List.range j).map (xk l i j))
def qu (A:Nat->Nat->Option Int) (km:Nat->Nat->Bool) (l:Nat->Nat->Int) (j i:Nat):Int:=
 if i=j then pt (lU A l j j) 0 else if km j i=true then qb (lU A l j i) (gw (pt (lU A l j j) 0)) 0 else 0
def Er (A:Nat->Nat->Option Int) (km:Nat->Nat->Bool):Nat->Nat->Nat->Int
 |0=>fun _ _=>0
 |j+1=>fun m i=>if m=j then qu A km (Er A km j) j i else Er A km j m i
def cB (A:Nat->Nat->Option Int) (km:Nat->Nat->Bool) (j i:Nat):Int:=Er A km (j+1) j i
theorem TA {A:Nat->Nat->Option Int} {km:Nat->Nat->Bool} {m i:Nat}:∀{j},m<j->Er A km j m i=cB A km m i
 |0,h=>absurd h (by omega)
 |j+1,h=>by
  by_cases g:m=j
  ·subst g;rfl
  ·rw[<-TA (j:=j) (by omega)];show(if m=j then _ else _)=_;rw[if_neg g]
theorem aeA {A:Nat->Nat->Option Int} {l l':Nat->Nat->Int} {j i:Nat} (h:∀m,m<j->∀i,l m i=l' m i):lU A l j i=lU A l' j i:=by unfold lU;congr 2;refine kK fun m ak=>?_;have ak:=j9.1 ak;unfold xk;rw[h m ak,h m ak]
theorem wI (A:Nat->Nat->Option Int) (km:Nat->Nat->Bool) (j i:Nat):cB A km j i=qu A km (cB A km) j i:=by show(if j=j then qu A km (Er A km j) j i else Er A km j j i)=_;rw[if_pos rfl];unfold qu;rw[aeA (l':=cB A km) (fun m ak i=>TA ak),aeA (i:=i) (l':=cB A km) (fun m ak i=>TA ak)]
theorem Ik (A:Nat->Nat->Option Int) (km:Nat->Nat->Bool) (j i:Nat):eE (cB A km j i):=by
 rw[wI];unfold qu;split
 ·exact axM 0
 ·split
  ·exact awE 0
  ·exact⟨by decide,by decide⟩
theorem NX {A:Nat->Nat->Option Int} {km:Nat->Nat->Bool} {j i:Nat} (h:km j i=false) (R:i≠j):cB A km j i=0:=by rw[wI];unfold qu;rw[if_neg R,if_neg (by rw[h];decide)]
theorem aeQ {α:Type} {f:α->Option Int} {p:α->Bool}:∀{L:List α},(∀m∈L,p m=false->f m=some 0)->hg ((L.filter p).map f)=hg (L.map f)/\ig ((L.filter p).map f)=ig (L.map f)
 |[],_=>⟨rfl,rfl⟩
 |m::L,h=>by
  obtain⟨J,R⟩:=aeQ (L:=L) fun x ab=>h x (by simp[ab]);by_cases g:p m=true
  ·rw[J7 g,ff,ff];have aA:∀a r,hg (a::r)=hg [a]+hg r:=fun a r=>O5 [a] r;have aX:∀a r,ig (a::r)=(ig [a]&&ig r):=fun a r=>Kr [a] r;rw[aA,aA _ (L.map f),aX,aX _ (L.map f),J,R];exact⟨rfl,rfl⟩
  ·rw[Fx g,ff,h m (by simp) (by simpa using g)];have aA:∀a r,hg (a::r)=hg [a]+hg r:=fun a r=>O5 [a] r;have aX:∀a r,ig (a::r)=(ig [a]&&ig r):=fun a r=>Kr [a] r;rw[aA,aX,J,R];refine⟨?_,?_⟩
   ·show _=(0:Int)+0+_;omega
   ·show _=(true&&true&&_);simp
theorem aeR {α:Type} {f:α->Option Int} {p:α->Bool} {L:List α} {a:Option Int} (h:∀m∈L,p m=false->f m=some 0):j5 (a::(L.filter p).map f)=j5 (a::L.map f):=by obtain⟨J,R⟩:=aeQ h;have aA:∀a r,hg (a::r)=hg [a]+hg r:=fun a r=>O5 [a] r;have aX:∀a r,ig (a::r)=(ig [a]&&ig r):=fun a r=>Kr [a] r;unfold j5;rw[aA,aA _ (L.map f),aX,aX _ (L.map f),J,R]
def bX (G:List (List Int)) (j i:Nat):Bool:=decide ((i:Int)∈ck G j)
theorem adz {G:List (List Int)} {j i:Nat}:bX G j i=true↔i<G.length/\ng G j i:=by unfold bX;rw[decide_eq_true_eq,Ev]
theorem aww {G:List (List Int)} {j:Nat} (h:j<G.length):bX G j j=true:=adz.2 ⟨h,.inl rfl⟩
theorem KI {G:List (List Int)} {j:Nat} {x:Int} (h:x∈ck G j):∃i:Nat,x=(i:Int)/\i<G.length/\j<=i/\bX G j i=true:=by have aV:=h;unfold ck nt at h;obtain⟨i,hi,rfl⟩:=dz.1 h;have J:=Ev.1 aV;exact⟨i,rfl,J.1,J.2.le,adz.2 J⟩
theorem X3 {G:List (List Int)} {j:Nat} (ao:j<G.length):∃r,ck G j=(j:Int)::r/\∀x∈r,(j:Int)<x:=by
 have ak:(j:Int)∈ck G j:=Ev.2 ⟨ao,.inl rfl⟩;have aC:=KH G j;cases h:ck G j with
 |nil=>rw[h] at ak;cases ak
 |cons a r=>
  rw[h] at ak aC;obtain⟨J,R⟩:=sm.1 aC;rcases d4.1 ak with e|e
  ·subst e;exact⟨r,rfl,J⟩
  ·have:=J _ e;obtain⟨i,rfl,_,hi,_⟩:=KI (G:=G) (j:=j) (x:=a) (by rw[h];simp);omega
theorem FR {G:List (List Int)} (j:Nat):(ck G j).length<=G.length:=X2 _ _ _
def iM (G:List (List Int)) (s i:Nat):List Int:=iJ ((List.range (min s i)).filter fun m=>bX G m i)
theorem akx {n:Nat} (ag:n<=5) {G:List (List Int)} (nB:G.length=n) (c4:gg G) (hc:∀l∈G,l.length<4611686018427387904) (M:List jP):KL (some ((n:Int),(G,()),M,()),())=some ((bz n (ck G),(bz n fun _=>[]),(bz n fun _=>none),(bz n fun i=>iM G n i),()),()):=by
 unfold KL;dsimp only;rw[Option.bind_some];refine aI (afY c4 hc (by omega)) ?_;rw[nB];refine aI rfl (aI (jZ (by omega)) (aI rfl (aI (jZ (by omega)) (aI rfl (aI (jZ (by omega)) ?_)))));refine U.eq_iff.1 ?_;dsimp only;have R2:(List.range n).map (ck G)=bz n (ck G):=rfl;rw[R2];refine U.bJ (P:=fun r=>r=((bz n (ck G),(bz n fun _=>[]),(bz n fun _=>none),(bz n fun i=>iM G n i),()),())) ?_ (by rintro _ rfl;exact U.ar.2 rfl);refine U.steps n (fun s t=>t=((s:Int),(bz n (ck G),(bz n fun _=>[]),(bz n fun _=>none),(bz n fun i=>iM G s i),()),())) ?_ ?_ ?_
 ·rw[og,og];have:(bz n fun _=>([]:List Int))=bz n fun i=>iM G 0 i:=fl fun i _=>by
   unfold iM;rw[Nat.zero_min];rfl
  rw[<-this];rfl
 ·rintro s _ hs rfl;dsimp only;rw[cT (a8 (show(s:Int)<aS (bz n (ck G)) by rw[bL,dP];omega)),cO (by omega)];refine U.bs (by rw[dC (by rw[dP];omega),l9]) ?_;have mO:=FR (G:=G) s;have rK:∀s i,(iM G s i).length<=i:=fun s i=>by
   unfold iM;rw[EA];refine d8 (lv _ _) ?_;rw[zW];omega
  refine U.bJ (P:=fun r=>r=((bz n (ck G),(bz n fun _=>[]),(bz n fun _=>none),(bz n fun i=>iM G (s+1) i),()),())) ?_ (by rintro _ rfl;exact U.ar.2 rfl);refine U.steps (ck G s).length (fun t q=>q=((t:Int),(bz n (ck G),(bz n fun _=>[]),(bz n fun _=>none),(bz n fun i=>iM G s i++if(i:Int)∈(ck G s).take t/\s<i then[(s:Int)] else[]),()),())) ?_ ?_ ?_
  ·have:(bz n fun i=>iM G s i)=bz n fun i=>iM G s i++if(i:Int)∈(ck G s).take 0/\s<i then[(s:Int)] else[]:=fl fun i _=>by simp
   rw[<-this];rfl
  ·rintro t _ ah rfl;dsimp only;rw[cT (a8 (show(t:Int)<aS (ck G s) by rw[bL];omega)),cO (by omega)];obtain⟨w,hw,yH,aBy,Hv⟩:=KI (List.getElem_mem ah);have rL:(ck G s).take (t+1)=(ck G s).take t++[(w:Int)]:=(by rw[List.take_add_one,List.getElem?_eq_getElem ah,hw];rfl);have D1:(w:Int)∉(ck G s).take t:=fun h=>by
    obtain⟨u,aR,e⟩:=List.mem_take_iff_getElem.1 h;have:=i7.1 (KH G s) u t (by omega) ah (by omega);omega
   refine U.bJ (P:=fun r=>r=((bz n (ck G),(bz n fun _=>[]),(bz n fun _=>none),(bz n fun i=>iM G s i++if(i:Int)∈(ck G s).take (t+1)/\s<i then[(s:Int)] else[]),()),())) ?_ (by rintro _ rfl;exact U.ar.2 rfl);refine U.bs (y:=(w:Int)) (by rw[dC ah,hw]) ?_;have Nk:∀i:Nat,i≠w->((i:Int)∈(ck G s).take (t+1)↔(i:Int)∈(ck G s).take t):=fun i hi=>(by rw[rL,fg,fh];exact⟨fun h=>h.resolve_right fun h=>hi (by omega),.inl⟩);rw[cC];refine U.ite (fun g=>?_) (fun g=>?_)
   ·refine U.bs (hb (by rw[dP];omega)) ?_;rw[iz (by omega),bq,if_neg (fun h=>D1 h.1),oM];have:=rK s w;rw[fo (by simp;omega),bq];refine U.bs (hb (by rw[dP];omega)) ?_;rw[cT (by simp)];rw[iz (by omega),bq,if_neg (fun h=>D1 h.1),oM,iz (by omega),kv];refine U.ar.2 ?_;have:bz n (fO (fun i=>iM G s i++if(i:Int)∈(ck G s).take t/\s<i then[(s:Int)] else[]) w (iM G s w++[(s:Int)]))=bz n fun i=>iM G s i++if(i:Int)∈(ck G s).take (t+1)/\s<i then[(s:Int)] else[]:=by
     refine fl fun i hi=>?_;by_cases e:i=w
     ·subst e;rw[nZ,if_pos ⟨by rw[rL];simp,by omega⟩]
     ·rw[nY _ _ e];have:=Nk i e;by_cases aX:(i:Int)∈(ck G s).take t/\s<i
      ·rw[if_pos aX,if_pos ⟨this.2 aX.1,aX.2⟩]
      ·rw[if_neg aX,if_neg fun h=>aX ⟨this.1 h.1,h.2⟩]
    rw[<-this]
   ·refine U.ar.2 ?_;have:(bz n fun i=>iM G s i++if(i:Int)∈(ck G s).take t/\s<i then[(s:Int)] else[])=bz n fun i=>iM G s i++if(i:Int)∈(ck G s).take (t+1)/\s<i then[(s:Int)] else[]:=by
     refine fl fun i hi=>?_;by_cases e:i=w
     ·subst e;rw[if_neg (by omega),if_neg (by omega)]
     ·have:=Nk i e;by_cases aX:(i:Int)∈(ck G s).take t/\s<i
      ·rw[if_pos aX,if_pos ⟨this.2 aX.1,aX.2⟩]
      ·rw[if_neg aX,if_neg fun h=>aX ⟨this.1 h.1,h.2⟩]
    rw[<-this]
  ·rintro _ rfl;dsimp only;rw[c1 (a1 (show¬(((ck G s).length:Nat):Int)<aS (ck G s) by rw[bL];omega)),List.take_of_length_le (Nat.le_refl _)];refine U.ar.2 ?_;have:(bz n fun i=>iM G s i++if(i:Int)∈ck G s/\s<i then[(s:Int)] else[])=bz n fun i=>iM G (s+1) i:=by
    refine fl fun i hi=>?_;unfold iM;by_cases g:s<i
    ·rw[hU (by omega),hU (by omega),re,rb,acb];congr 1;by_cases bt:(i:Int)∈ck G s
     ·rw[if_pos ⟨bt,g⟩,J7 (by unfold bX;exact a8 bt)];rfl
     ·rw[if_neg (fun h=>bt h.1),Fx (by unfold bX;simpa using bt)];rfl
    ·rw[Nat.min_eq_right (by omega),Nat.min_eq_right (by omega),if_neg (fun h=>g h.2),oM]
   rw[this]
 ·rintro _ rfl;dsimp only;rw[c1 (a1 (show¬((n:Int)<aS (bz n (ck G))) by rw[bL,dP];omega))];exact U.ar.2 rfl
def CM (A:Nat->Nat->Option Int) (G:List (List Int)) (j:Nat):Prop:=∀m,m<j->∀i,bX G m i=true->dw (cB A (bX G) m i)≠2047
theorem CM.of {A:Nat->Nat->Option Int} {G:List (List Int)} {j:Nat} (h:CM A G j) {m i:Nat} (ak:m<j) (hi:m<i):∃v,gw (cB A (bX G) m i)=some v:=by
 by_cases g:bX G m i=true
 ·exact atI (h m ak i g)
 ·rw[NX (by simpa using g) (by omega),Oa];exact⟨0,rfl⟩
theorem ae2 {A:Nat->Nat->Option Int} {G:List (List Int)} {j:Nat} (h:CM A G j) {m i:Nat} (ak:m<j) (hi:j<=i) (a2:bX G m i=false\/bX G m j=false):xk (cB A (bX G)) i j m=some 0:=by
 unfold xk;obtain⟨a,aC⟩:=h.of ak (i:=i) (by omega);obtain⟨b,aa⟩:=h.of ak (i:=j) (by omega);rcases a2 with a2|a2
 ·rw[NX a2 (by omega),Oa,aa,as3];rfl
 ·rw[NX a2 (by omega),Oa,aC,as4];rfl
structure pE (A:Nat->Nat->Option Int) (G:List (List Int)) (n j:Nat) (X:List jP):Prop where
 len:X.length=n
 get:∀m,m<j->∃l c,X[m]?=some (some (l,c))/\∀i,i<n->e9 l (i:Int)=if bX G m i=true then some (b6 (gw (cB A (bX G) m i))) else none
theorem ae1 (l:Nat->Nat->Int) (i j m:Nat):e5 (xk l i j m):=atj (TQ _ _)
theorem EZ (A:Nat->Nat->Option Int) (l:Nat->Nat->Int) (j i:Nat):e5 (lU A l j i):=aeS _
theorem aeB {n:Nat} (ag:n<=5) {o:List Int} {E:List cD} {M:List jP} (bF:l0 n o E M) {G J2:List (List Int)} {j:Nat} (ao:j<n) (DU:CM (cl E o) G j) {X:List jP} (iC:pE (cl E o) G n j X) (aK:List (List Int)) (cs:List (List Int)) {i:Nat} (hi:i<n) (o8:j<=i):FV (some (cs,aK,X,(bz n fun i=>iM G n i),()),some ((n:Int),(J2,()),M,()),(i:Int),(j:Int),())=some (b6 (lU (cl E o) (cB (cl E o) (bX G)) j i),()):=by
 unfold FV;refine aI (ayd bF hi ao) ?_;refine aI rfl ?_;refine aI (by rw[dC (by rw[dP];omega),l9]) ?_;dsimp only;have aqe:iM G n j=iJ ((List.range j).filter fun m=>bX G m j):=(by unfold iM;rw[Nat.min_eq_right (by omega)]);rw[aqe];generalize e4:(List.range j).filter (fun m=>bX G m j)=L;have Zr:∀m∈L,m<j/\bX G m j=true:=fun m ak=>(by rw[<-e4] at ak;exact⟨List.mem_range.1 (List.mem_filter.1 ak).1,(List.mem_filter.1 ak).2⟩);have Zq:L.length<=5:=by rw[<-e4];refine Nat.le_trans (List.length_filter_le _ _) ?_;rw[List.length_range];omega
 let A:=cl E o
 let b3:=xk (cB (cl E o) (bX G)) i j
 refine U.eq_iff.1 ?_;refine U.bJ (P:=fun r=>r=(Dw,(cl E o i j::(L.filter fun m=>bX G m i).map b3).map b6,())) ?_ ?_
 ·refine U.steps L.length (fun t s=>s=((t:Int),Dw,(cl E o i j::((L.take t).filter fun m=>bX G m i).map b3).map b6,())) rfl ?_ ?_
  ·rintro t _ ah rfl;dsimp only;rw[cT (a8 (show(t:Int)<aS (iJ L) by rw[bL,EA];omega)),cO (by omega)];refine U.bJ (P:=fun r=>r=(Dw,(cl E o i j::((L.take (t+1)).filter fun m=>bX G m i).map b3).map b6,())) ?_ (by rintro _ rfl;exact U.ar.2 rfl);obtain⟨sW,mQ⟩:=Zr L[t] (List.getElem_mem ah);refine U.bs (y:=((L[t]:Nat):Int)) (by rw[dC (by rw[EA];exact ah)];simp[iJ]) ?_;rw[Vv ah];generalize L[t]=m at*;obtain⟨l,c,J,R⟩:=iC.get m sW;refine U.bs rfl (U.bs (mK J) ?_);have ux:∀k:Nat,lM (α:=dO) (some (l,c)) (k:Int)=e9 l (k:Int):=fun _=>rfl;rw[ux i,R i hi];by_cases g:bX G m i=true
   ·rw[if_pos g,if_pos g,Kd,cond_true];refine U.bs rfl (U.bs (mK J) ?_);rw[ux j,R j ao,if_pos mQ];refine U.bs (al0 (qS _) (qS _)) (U.bs (al1 (TQ _ _)) ?_);have:((L.take t).filter fun m=>bX G m i).length<=5:=by
     refine d8 (lv _ _) ?_;rw[eW];omega
    rw[fo (by simp;omega)];refine U.ar.2 ?_;rw[jm,<-mA,jm];rfl
   ·rw[if_neg g,if_neg g,Option.isSome_none,cond_false,oM];exact U.ar.2 rfl
  ·rintro _ rfl;dsimp only;rw[c1 (a1 (show¬((L.length:Int)<aS (iJ L)) by rw[bL,EA];omega)),List.take_of_length_le (Nat.le_refl _)];exact U.ar.2 rfl
 ·rintro _ rfl;dsimp only;refine U.bs (al2 ?_ ?_) (U.ar.2 ?_)
  ·intro d aP;rcases d4.1 aP with rfl|aP
   ·exact qS _
   ·obtain⟨m,_,rfl⟩:=dz.1 aP;exact ae1 _ _ _ _
  ·have:=lv (fun m=>bX G m i) L;simp only[kJ,i6];omega
  ·have aA:j5 (cl E o i j::(L.filter fun m=>bX G m i).map b3)=j5 (cl E o i j::L.map b3):=aeR fun m ak a2=>ae2 DU (Zr m ak).1 o8 (.inl a2);have aX:j5 (cl E o i j::L.map b3)=j5 (cl E o i j::(List.range j).map b3):=by
    rw[<-e4];exact aeR fun m ak a2=>ae2 DU (j9.1 ak) o8 (.inr a2)
   rw[aA,aX];rfl
def j6 (A:Nat->Nat->Option Int) (G:List (List Int)) (m:Nat):List Int:=(ck G m).map fun i=>cB A (bX G) m i.toNat
def hO (A:Nat->Nat->Option Int) (G:List (List Int)) (j:Nat):Int:=open Classical in if u6 (lU A (cB A (bX G)) j j)<=0\/yM (cB A (bX G) j j)=0 then 231 else if∀i,bX G j i=true->dw (cB A (bX G) j i)≠2047 then 0 else 233
def qm (A:Nat->Nat->Option Int) (G:List (List Int)) (n j:Nat) (S:List Int) (X:List jP):Prop:=∃l c,X[j]?=some (some (l,c))/\∀i,i<n->e9 l ((i:Nat):Int)=if((i:Nat):Int)∈S then some (b6 (gw (cB A (bX G) j i))) else none
theorem pE.set {A:Nat->Nat->Option Int} {G:List (List Int)} {n j:Nat} {X:List jP} (h:pE A G n j X) (x:jP):pE A G n j (X.set j x) where
 len:=by rw[Fz,h.len]
 get:=fun m ak=>by obtain⟨l,c,J,R⟩:=h.get m ak;exact⟨l,c,by rw[qk (by omega),J],R⟩
theorem pE.next {A:Nat->Nat->Option Int} {G:List (List Int)} {n j:Nat} {X:List jP} (h:pE A G n j X) (aw:qm A G n j (ck G j) X):pE A G n (j+1) X where
 len:=h.len
 get:=fun m ak=>by
  rcases ct m j with g|g
  ·exact h.get m g
  ·obtain rfl:m=j:=(by omega);obtain⟨l,c,J,R⟩:=aw;refine⟨l,c,J,fun i hi=>?_⟩;rw[R i hi];unfold bX;by_cases bt:(i:Int)∈ck G m
   ·rw[if_pos bt,if_pos (a8 bt)]
   ·rw[if_neg bt,if_neg (by simpa using bt)]
theorem qm.one {A:Nat->Nat->Option Int} {G:List (List Int)} {n j:Nat} {X:List jP} (ao:j<X.length) (c:Nat):qm A G n j [(j:Int)] (X.set j (some (jH [] (j:Int) (b6 (gw (cB A (bX G) j j))),c))):=by
 refine⟨_,_,oN ao,fun i hi=>?_⟩;rw[Im];by_cases g:i=j
 ·subst g;rw[if_pos rfl,if_pos (by simp)]
 ·rw[if_neg (by omega),if_neg (by simp;omega)];rfl
theorem qm.add {A:Nat->Nat->Option Int} {G:List (List Int)} {n j:Nat} {S:List Int} {X:List jP} {l:List (Int×dO)} {c:Nat} (ai:X[j]?=some (some (l,c))) (h:qm A G n j S X) (w:Nat) (v0:dO) (cw:Nat):qm A G n j (S++[(w:Int)]) (X.set j (some (jH (jH l (w:Int) v0) (w:Int) (b6 (gw (cB A (bX G) j w))),cw))):=by
 have ca:j<X.length:=(fu.1 ai).1;obtain⟨l',c',J,R⟩:=h;rw[ai] at J;cases J;refine⟨_,_,oN ca,fun i hi=>?_⟩;rw[Im,Im,R i hi];by_cases g:i=w
 ·subst g;rw[if_pos rfl,if_pos (by simp)]
 ·rw[if_neg (by omega),if_neg (by omega)];by_cases bt:(i:Int)∈S
  ·rw[if_pos bt,if_pos (by simp[bt])]
  ·rw[if_neg bt,if_neg (by simp[bt];omega)]
theorem alC {n:Nat} (ag:n<=5) {o:List Int} {E:List cD} {M:List jP} (bF:l0 n o E M) {G J2:List (List Int)} (nB:G.length=n) {j:Nat} (ao:j<n) (DU:CM (cl E o) G j) {X:List jP} (iC:pE (cl E o) G n j X):U (KM ((bz n (ck G),(bz n fun m=>if m<j then j6 (cl E o) G m else[]),X,(bz n fun i=>iM G n i),()),some ((n:Int),(J2,()),M,()),(j:Int),())) fun r=>r.2.1=hO (cl E o) G j/\(hO (cl E o) G j=0->∃mF,pE (cl E o) G n (j+1) mF/\r.1=(bz n (ck G),(bz n fun m=>if m<j+1 then j6 (cl E o) G m else[]),mF,(bz n fun i=>iM G n i),())):=by
 classical
 unfold KM;refine U.bs (aeB ag bF ao DU iC _ _ ao (Nat.le_refl _)) ?_;dsimp only;refine U.bs (sF (EZ _ _ _ _)) ?_;dsimp only;have s0:cB (cl E o) (bX G) j j=pt (lU (cl E o) (cB (cl E o) (bX G)) j j) 0:=(by rw[wI];unfold qu;rw[if_pos rfl]);rw[cC];refine U.ite (fun g=>?_) (fun g=>?_)
 ·refine U.ar.2 ?_;have aE:hO (cl E o) G j=231:=(by unfold hO;rw[if_pos (.inl g)]);exact⟨aE.symm,fun h=>by rw[aE] at h;cases h⟩
 refine U.bs (anR (EZ _ _ _ _)) ?_;dsimp only;rw[<-s0];have hw:=Ik (cl E o) (bX G) j j;refine U.bs (arh hw) ?_;dsimp only;rw[eY,cC];refine U.ite (fun bt=>?_) (fun bt=>?_)
 ·refine U.ar.2 ?_;have aE:hO (cl E o) G j=231:=(by unfold hO;rw[if_pos (.inr bt)]);exact⟨aE.symm,fun h=>by rw[aE] at h;cases h⟩
 have aE:hO (cl E o) G j=if∀i,bX G j i=true->dw (cB (cl E o) (bX G) j i)≠2047 then 0 else 233:=by unfold hO;rw[if_neg (fun h=>h.elim g bt)]
 have Sz:∀i,i≠j->bX G j i=true->cB (cl E o) (bX G) j i=qb (lU (cl E o) (cB (cl E o) (bX G)) j i) (gw (cB (cl E o) (bX G) j j)) 0:=fun i J R=>(by rw[wI];unfold qu;rw[if_neg J,if_pos R,<-s0]);have yC:∀i,e5 (lU (cl E o) (cB (cl E o) (bX G)) j i):=fun i=>EZ _ _ _ _;have aqg:=@aeB n ag o E M bF G J2 j ao DU;have DY:=Ik (cl E o) (bX G);obtain⟨r,hr,yF⟩:=X3 (G:=G) (j:=j) (by omega);have kk:∀x∈r,∃i:Nat,x=(i:Int)/\i<n/\j<i/\bX G j i=true:=fun x ab=>(by obtain⟨i,rfl,J,R,ac⟩:=KI (G:=G) (j:=j) (x:=x) (by rw[hr];simp[ab]);exact⟨i,rfl,by omega,by have:=yF _ ab;omega,ac⟩);have gn:(∀i,bX G j i=true->dw (cB (cl E o) (bX G) j i)≠2047)↔dw (cB (cl E o) (bX G) j j)≠2047/\∀x∈r,dw (cB (cl E o) (bX G) j x.toNat)≠2047:=by
  constructor
  ·intro h;refine⟨h j (aww (by omega)),fun x ab=>?_⟩;obtain⟨i,rfl,_,_,ac⟩:=kk x ab;exact h i ac
  ·rintro⟨J,R⟩ i hi;have:(i:Int)∈ck G j:=(by unfold bX at hi;exact of_decide_eq_true hi);rw[hr] at this;rcases d4.1 this with e|e
   ·obtain rfl:i=j:=(by omega);exact J
   ·exact R _ e
 have pX:j6 (cl E o) G j=cB (cl E o) (bX G) j j::r.map fun i=>cB (cl E o) (bX G) j i.toNat:=(by unfold j6;rw[hr,List.map_cons,Int.toNat_natCast]);have rK:r.length<=5:=(by have:=FR (G:=G) j;rw[hr,List.length_cons] at this;omega);have et:qm (cl E o) G n j (ck G j)=qm (cl E o) G n j ((j:Int)::r):=(by rw[hr]);refine U.bs (Ob hw) ?_;dsimp only;refine U.bs rfl ?_;refine U.bs (hb (by rw[dP];omega)) ?_;rw[iz ao,kv];refine U.bs rfl ?_;dsimp only;have aBc:=iC.len;refine U.bs (hb (by omega)) ?_;rw[vD (List.getElem?_eq_getElem (show j<X.length by omega))];refine U.bs rfl ?_;dsimp only;have uu:pE (cl E o) G n j (X.set j (some (jH [] (j:Int) (b6 (gw (cB (cl E o) (bX G) j j))),1))):=iC.set _;have Zt:qm (cl E o) G n j [(j:Int)] (X.set j (some (jH [] (j:Int) (b6 (gw (cB (cl E o) (bX G) j j))),1))):=qm.one (by omega) 1;change U ((Av (cB (cl E o) (bX G) j j,())).bind _) _;change pE (cl E o) G n j (X.set j (some (jH [] (j:Int) (b6 (gw (cB (cl E o) (bX G) j j))),1))) at uu;generalize aoE:X.set j (some (jH [] (j:Int) (b6 (gw (cB (cl E o) (bX G) j j))),1))=ajV at uu Zt;refine U.bs (SZ hw) ?_;dsimp only;rw[Bool.not_not,cC];refine U.ite (fun cY=>?_) (fun cY=>?_)
 ·refine U.ar.2 ?_;rw[aE,if_neg (fun h=>(gn.1 h).1 cY)];exact⟨rfl,fun h=>by cases h⟩
 refine U.bs (by rw[dC (by rw[dP];omega),l9]) ?_;have ws:((jh 1).bind fun H3=>(some ((ck G j).length)).bind fun H4=>(jG H3 H4 (ck G j).length).map fun _=>(H3,H4))=some (1,(ck G j).length):=(by rw[hr];show((jG 1 (r.length+1) (r.length+1)).map fun _=>(1,r.length+1))=_;unfold jG;rw[if_pos ⟨by omega,by omega⟩];rfl);refine U.bs ws ?_;dsimp only;have ZN:((ck G j).take (ck G j).length).drop 1=r:=(by rw[List.take_length,hr];rfl);rw[ZN];clear ws ZN;refine U.bJ (P:=fun q=>(∃mF,pE (cl E o) G n j mF/\qm (cl E o) G n j ((j:Int)::r) mF/\(∀x∈r,dw (cB (cl E o) (bX G) j x.toNat)≠2047)/\q=.inl ((bz n (ck G),(bz n fun m=>if m<j+1 then j6 (cl E o) G m else[]),mF,(bz n fun i=>iM G n i),()),()))\/∃c',q=.inr (c',233,())/\∃x∈r,dw (cB (cl E o) (bX G) j x.toNat)=2047) ?_ ?_
 ·refine U.steps r.length (fun t s=>∃mF,pE (cl E o) G n j mF/\qm (cl E o) G n j ((j:Int)::r.take t) mF/\(∀x∈r.take t,dw (cB (cl E o) (bX G) j x.toNat)≠2047)/\s=((t:Int),(bz n (ck G),bz n (fO (fun m=>if m<j then j6 (cl E o) G m else[]) j (cB (cl E o) (bX G) j j::(r.take t).map fun i=>cB (cl E o) (bX G) j i.toNat)),mF,(bz n fun i=>iM G n i),()),())) ?_ ?_ ?_
  ·exact⟨ajV,uu,Zt,by simp,by rw[<-aoE];rfl⟩
  ·rintro t _ ah ⟨mF,yp,DJ,aH,rfl⟩;dsimp only;rw[cT (a8 (show(t:Int)<aS r by rw[bL];omega))];obtain⟨w,pd,yH,Z7,Hv⟩:=kk r[t] (List.getElem_mem ah);have rL:r.take (t+1)=r.take t++[(w:Int)]:=(by rw[List.take_add_one,List.getElem?_eq_getElem ah,pd];rfl);refine U.bs (y:=(w:Int)) (by rw[dC ah,pd]) ?_;refine U.bs (aqg yp _ _ yH (by omega)) ?_;dsimp only;refine U.bs (Ob hw) ?_;dsimp only;refine U.bs (anN (yC w) (qS _)) ?_;dsimp only;rw[<-Sz w (by omega) Hv];refine U.bs (SZ (DY j w)) ?_;dsimp only;rw[Bool.not_not,cC];refine U.ite (fun c7=>?_) (fun c7=>?_)
   ·exact U.ar.2 (.inr ⟨_,rfl,(w:Int),by rw[<-pd];exact dy ah,c7⟩)
   obtain⟨l,c,ai,apD⟩:=DJ;have d2:j<mF.length:=(List.getElem?_eq_some_iff.1 ai).1;refine U.bs (hb d2) (U.bs (hb (by rw[dP];omega)) ?_);rw[iz ao,nZ];refine U.bs rfl ?_;rw[fo (by simp;omega)];refine U.bs rfl ?_;refine U.bs (Ob (DY j w)) ?_;dsimp only;refine U.bs (hb (by rw[dP];omega)) ?_;rw[cT (by simp),iz ao,nZ];refine U.bs rfl ?_;rw[iz ao,kv];refine U.bs rfl ?_;dsimp only;refine U.bs (vD ai) ?_;refine U.bs rfl ?_;rw[vD ai];refine U.bs rfl ?_;dsimp only;rw[cT (by simp)];refine U.bs (vD (List.getElem?_set_self d2)) ?_;refine U.bs rfl ?_;rw[vD (List.getElem?_set_self d2)];refine U.bs rfl ?_;dsimp only;rw[cO (by omega),List.set_set];have aA:bz n (fO (fO (fun m=>if m<j then j6 (cl E o) G m else[]) j (cB (cl E o) (bX G) j j::(r.take t).map fun i=>cB (cl E o) (bX G) j i.toNat)) j (cB (cl E o) (bX G) j j::((r.take t).map fun i=>cB (cl E o) (bX G) j i.toNat)++[cB (cl E o) (bX G) j w]))=bz n (fO (fun m=>if m<j then j6 (cl E o) G m else[]) j (cB (cl E o) (bX G) j j::(r.take (t+1)).map fun i=>cB (cl E o) (bX G) j i.toNat)):=by
    refine fl fun v hv=>?_;by_cases Ba:v=j
    ·subst Ba;rw[nZ,nZ,rL,jm];rfl
    ·rw[nY _ _ Ba,nY _ _ Ba,nY _ _ Ba]
   rw[aA];refine U.ar.2 ⟨_,yp.set _,?_,?_,rfl⟩
   ·rw[rL,<-mA];exact qm.add ai ⟨l,c,ai,apD⟩ w _ _
   ·intro x ab;rw[rL,fg,fh] at ab;rcases ab with ab|rfl
    ·exact aH x ab
    ·exact c7
  ·rintro _ ⟨mF,yp,DJ,aH,rfl⟩;dsimp only;rw[List.take_of_length_le (Nat.le_refl _)] at DJ aH|-;rw[c1 (a1 (show¬((r.length:Int)<aS r) by rw[bL];omega))];refine U.ar.2 (.inl ⟨mF,yp,DJ,aH,?_⟩);have aA:bz n (fO (fun m=>if m<j then j6 (cl E o) G m else[]) j (cB (cl E o) (bX G) j j::r.map fun i=>cB (cl E o) (bX G) j i.toNat))=bz n fun m=>if m<j+1 then j6 (cl E o) G m else[]:=by
    refine fl fun v hv=>?_;by_cases Ba:v=j
    ·subst Ba;rw[nZ,if_pos (by omega),pX]
    ·rw[nY _ _ Ba];by_cases uo:v<j
     ·rw[if_pos uo,if_pos (by omega)]
     ·rw[if_neg uo,if_neg (by omega)]
   rw[aA]
 ·rintro q (⟨mF,yp,DJ,aH,rfl⟩|⟨c',rfl,x,ab,aqF⟩)
  ·dsimp only;refine U.ar.2 ?_;rw[aE,if_pos (gn.2 ⟨cY,aH⟩)];exact⟨rfl,fun _=>⟨mF,yp.next (by rw[et];exact DJ),rfl⟩⟩
  ·dsimp only;refine U.ar.2 ?_;rw[aE,if_neg (fun h=>(gn.1 h).2 x ab aqF)];exact⟨rfl,fun h=>by cases h⟩
def nL (G:List (List Int)):Nat->List Int
 |0=>[]
 |j+1=>nL G j++ck G j
def zA (A:Nat->Nat->Option Int) (G:List (List Int)):Nat->List Int
 |0=>[]
 |j+1=>zA A G j++j6 A G j
def v9 (A:Nat->Nat->Option Int) (G:List (List Int)) (o:List Int) (n:Nat):fU:=(o,(bz (n+1) (fun k=>((nL G k).length:Int)),(nL G n,(zA A G n,()))))
def kE:fU:=(([]:bx),(([]:bx),(([]:bx),(([]:bx),()))))
def oy (A:Nat->Nat->Option Int) (G:List (List Int)) (o:List Int) (n:Nat):Ab:=match(List.range n).find? fun j=>decide (hO A G j≠0) with
 |some j=>if hO A G j=231 then(kE,(j:Int),231,()) else(kE,0,hO A G j,())
 |none=>(v9 A G o n,(n:Int),0,())
theorem abt {A:Nat->Nat->Option Int} {G:List (List Int)} {o:List Int} {n j:Nat} (h:∀m,m<j->hO A G m=0) (ao:j<n) (aE:hO A G j≠0):oy A G o n=if hO A G j=231 then(kE,(j:Int),231,()) else(kE,0,hO A G j,()):=by have:(List.range n).find? (fun j=>decide (hO A G j≠0))=some j:=(by rw[List.find?_eq_some_iff_getElem];refine⟨a8 aE,j,by simpa using ao,by simp,fun m ak=>?_⟩;simp only[List.getElem_range];simpa using h m ak);unfold oy;rw[this]
theorem Tq {A:Nat->Nat->Option Int} {G:List (List Int)} {o:List Int} {n:Nat} (h:∀m,m<n->hO A G m=0):oy A G o n=(v9 A G o n,(n:Int),0,()):=by have:(List.range n).find? (fun j=>decide (hO A G j≠0))=none:=(by rw[List.find?_eq_none];intro m ak;simpa using h m (j9.1 ak));unfold oy;rw[this]
theorem amQ {A:Nat->Nat->Option Int} {G:List (List Int)} {j:Nat} (h:hO A G j=0):∀i,bX G j i=true->dw (cB A (bX G) j i)≠2047:=by
 unfold hO at h;split at h
 ·cases h
 ·split at h
  ·assumption
  ·cases h
theorem Ze {A:Nat->Nat->Option Int} {G:List (List Int)} {j:Nat} (h:∀m,m<j->hO A G m=0):CM A G j:=fun m ak=>amQ (h m ak)
theorem NA (G:List (List Int)):∀j,(nL G j).length<=j*G.length
 |0=>eX _
 |j+1=>by rw[nL,tS,ie,lx];have:=NA G j;have:=FR (G:=G) j;omega
theorem Pl (A:Nat->Nat->Option Int) (G:List (List Int)):∀j,(zA A G j).length=(nL G j).length
 |0=>rfl
 |j+1=>by rw[nL,zA,tS,tS,Pl A G j];unfold j6;rw[i6]
theorem alr {l:List Int} (ag:l.length<=100000000):Lt (l,())=some (l,()):=by
 unfold Lt;have e:((di (([]:List Int).length+l.length)).bind fun _=>some (([]++l:List Int),()))=some (l,()):=(by rw[fo (by simp;omega)];rfl);show rT l.length (some ([],())) ((di (([]:List Int).length+l.length)).bind fun _=>some (([]++l:List Int),()))=_;unfold rT;rw[e];split
 ·rename_i h;obtain rfl:=qi h;rw[if_pos rfl]
 ·rfl
theorem anE {n:Nat} (ag:n<=5) {A:Nat->Nat->Option Int} {G:List (List Int)} (nB:G.length=n) {o:List Int} (aJ:o.length<=1000000) (X:List jP) (ax7:List (List Int)):KN (some (bz n (ck G),bz n (j6 A G),X,ax7,()),o,())=some (v9 A G o n,()):=by
 unfold KN;refine aI (alr (by omega)) ?_;refine aI rfl ?_;refine U.eq_iff.1 ?_;dsimp only;refine U.bJ (P:=fun r=>r=(kE,v9 A G o n,())) ?_ (by rintro _ rfl;exact U.ar.2 rfl);refine U.steps n (fun j s=>s=((j:Int),kE,(o,(bz (j+1) (fun k=>((nL G k).length:Int)),(nL G j,(zA A G j,())))),())) ?_ ?_ ?_
 ·rfl
 ·rintro j _ ao rfl;dsimp only;rw[cT (a8 (show(j:Int)<aS (bz n (ck G)) by rw[bL,dP];omega)),cO (by omega)];refine U.bs rfl ?_;refine U.bs (by rw[dC (by rw[dP];omega),l9]) ?_;have J:=NA G j;have R:=FR (G:=G) j;have ac:=Pl A G j;have aL:j*G.length<=5*5:=Nat.mul_le_mul (by omega) (by omega);have aY:(j6 A G j).length=(ck G j).length:=(by unfold j6;rw[List.length_map]);rw[fo (by omega)];refine U.bs rfl (U.bs rfl ?_);refine U.bs (by rw[dC (by rw[dP];omega),l9]) ?_;rw[fo (by omega)];refine U.bs rfl ?_;rw[fo (by rw[dP];simp;omega)];refine U.bs rfl (U.ar.2 ?_);rw[yi (j+1)];rfl
 ·rintro _ rfl;dsimp only;rw[c1 (a1 (show¬((n:Int)<aS (bz n (ck G))) by rw[bL,dP];omega))];exact U.ar.2 rfl
theorem Wm {n:Nat} {st az aK:List Int} (ag:n<=5) (ak:ja n n st az aK) (ae:g5 n n st az aK=0) {o:List Int} (aw:fr o n):ue (((n:Int),(n:Int),st,az,aK,()),o,())=some (oy (cl (du st az aK n) o) (o2 n (hQ (du st az aK n)) o) o n):=by
 obtain⟨M,bF,rB⟩:=ajI ag ak ae aw;have G8:=Ry (E:=hQ (du st az aK n)) aw;have RH:=Zg n (hQ (du st az aK n)) o;have RG:=Zf (E:=hQ (du st az aK n)) ag aw;have nJ:=aw.1;unfold ue;refine aI rB ?_;dsimp only;rw[c1 (show((0:Int)!=0)=false from rfl)];generalize o2 n (hQ (du st az aK n)) o=G at*;generalize du st az aK n=E at*;refine aI (akx ag G8 RH RG M) (aI rfl ?_);refine U.eq_iff.1 ?_;dsimp only;refine U.bJ (P:=fun q=>(q=.inr (oy (cl E o) G o n))\/(∃X,q=.inl (kE,(bz n (ck G),bz n (j6 (cl E o) G),X,(bz n fun i=>iM G n i),()),()))/\oy (cl E o) G o n=(v9 (cl E o) G o n,(n:Int),0,())) ?_ ?_
 ·refine U.steps n (fun j s=>(∀m,m<j->hO (cl E o) G m=0)/\∃X,pE (cl E o) G n j X/\s=((j:Int),kE,(bz n (ck G),(bz n fun m=>if m<j then j6 (cl E o) G m else[]),X,(bz n fun i=>iM G n i),()),())) ?_ ?_ ?_
  ·exact⟨fun m ak=>absurd ak (by omega),bz n (fun _=>none),⟨dP _ _,fun m ak=>absurd ak (by omega)⟩,rfl⟩
  ·rintro j _ ao ⟨qH,X,iC,rfl⟩;dsimp only;rw[cT (a8 (show(j:Int)<(n:Int) by omega)),cO (by omega)];refine U.bJ (alC ag bF G8 ao (Ze qH) iC) ?_;rintro⟨c',e,_⟩ ⟨aE,rE⟩;dsimp only at aE rE|-;subst aE;rw[eY,cC];refine U.ite (fun g=>?_) (fun g=>?_)
   ·obtain⟨mF,yp,rfl⟩:=rE g;refine U.ar.2 ⟨fun m ak=>?_,mF,yp,rfl⟩;rcases ct m j with h|h
    ·exact qH m h
    ·obtain rfl:m=j:=(by omega);exact g
   ·rw[eY,cC];have e4:=abt (o:=o) qH ao g;refine U.ite (fun bt=>?_) (fun bt=>?_)
    ·refine U.ar.2 (.inl ?_);rw[e4,if_pos bt,bt];rfl
    ·refine U.ar.2 (.inl ?_);rw[e4,if_neg bt];rfl
  ·rintro _ ⟨qH,X,iC,rfl⟩;dsimp only;rw[c1 (a1 (show¬((n:Int)<(n:Int)) by omega))];refine U.ar.2 (.inr ⟨⟨X,?_⟩,Tq qH⟩);have:(bz n fun m=>if m<n then j6 (cl E o) G m else[])=bz n (j6 (cl E o) G):=fl fun m ak=>if_pos ak;rw[this]
 ·rintro q (rfl|⟨⟨X,rfl⟩,h⟩)
  ·exact U.ar.2 rfl
  ·dsimp only;refine U.bs (anE ag G8 (by omega) X _) ?_;rw[h];exact U.ar.2 rfl
theorem ajD {rows cols:Nat} {st az aK:List Int} (ak:ja rows cols st az aK) {o:List Int} (aJ:o.length<=1000000) (h:tx rows cols st az aK o≠0):ue (((rows:Int),(cols:Int),st,az,aK,()),o,())=some (kE,0,tx rows cols st az aK o,()):=by unfold ue;refine aI (ajH ak aJ h) ?_;dsimp only;rw[ee,a1 h];rfl
theorem aqX {f:Int} (aH:eE f):L6 (f,())=some (decide (yM f=0),()):=by
 unfold L6;have key:yM f=0↔f=0\/f=9223372036854775808:=by
  unfold yM dw hp;obtain⟨J,R⟩:=aH;constructor
  ·intro h;split at h
   ·split at h<;>cases h
   ·split at h
    ·omega
    ·cases h
  ·intro h;rw[if_neg (by omega),if_pos (by omega)]
 dsimp only;rw[eY,eY];by_cases g:f=0
 ·rw[a8 g,a8 (key.2 (.inl g))];rfl
 ·rw[a1 g];by_cases bt:f=9223372036854775808
  ·rw[a8 bt,a8 (key.2 (.inr bt))];rfl
  ·rw[a1 bt,a1 (fun h=>(key.1 h).elim g bt)];rfl
theorem awv {a b:Int} (aC:eE a) (aa:eE b):GI (a,b,())=some (b6 (te (gw a) (gw b)),()):=by unfold GI;refine aI (Je aC) (aI (Je aa) ?_);exact aI (axr (qS _) (qS _)) rfl
theorem axK {d:Option Int} (h:e5 d):GJ (b6 d,())=some (pt d 0,()):=by unfold GJ;exact aI (axF h) rfl
theorem awD {a b:Option Int} (aC:e5 a) (aa:e5 b):L7 (b6 a,b6 b,())=some (qb a b 0,()):=by unfold L7;exact aI (axE aC aa) rfl
def fK (A:Nat->Nat->Option Int) (G:List (List Int)) (j c m i:Nat):Int:=if(m<j/\bX G m i=true)\/(m=j/\(i:Int)∈(ck G j).take c) then cB A (bX G) m i else 0
theorem aeZ {A:Nat->Nat->Option Int} {G:List (List Int)} {j c m i:Nat} (ak:m<j) (hi:i≠m):fK A G j c m i=cB A (bX G) m i:=by
 unfold fK;by_cases g:bX G m i=true
 ·rw[if_pos (.inl ⟨ak,g⟩)]
 ·rw[if_neg (by rintro(⟨_,h⟩|⟨h,_⟩);exact g h;omega),NX (by simpa using g) hi]
theorem azd {A:Nat->Nat->Option Int} {G:List (List Int)} {m i:Nat}:fK A G 0 0 m i=0:=by unfold fK;rw[if_neg (by simp)]
theorem azb {A:Nat->Nat->Option Int} {G:List (List Int)} {j m i:Nat}:fK A G j (ck G j).length m i=fK A G (j+1) 0 m i:=by
 have key:(m<j/\bX G m i=true\/m=j/\(i:Int)∈ck G j)↔m<j+1/\bX G m i=true:=by
  constructor
  ·rintro(⟨J,R⟩|⟨rfl,R⟩)
   ·exact⟨by omega,R⟩
   ·exact⟨by omega,by unfold bX;exact a8 R⟩
  ·rintro⟨J,R⟩;rcases ct m j with h|h
   ·exact .inl ⟨h,R⟩
   ·obtain rfl:m=j:=(by omega);exact .inr ⟨rfl,by unfold bX at R;exact of_decide_eq_true R⟩
 unfold fK;rw[dW (bU _)];by_cases g:m<j+1/\bX G m i=true
 ·rw[if_pos (key.2 g),if_pos (.inl g)]
 ·rw[if_neg (fun h=>g (key.1 h)),if_neg (by rintro(h|⟨_,h⟩);exact g h;simp at h)]
def kH (n:Nat) (F:Nat->Nat->Int):List (List Int):=bz n fun m=>bz n (F m)
theorem axh {n:Nat} (ag:n<=5) {A:Nat->Nat->Option Int} (dY:∀i j,e5 (A i j)) {G:List (List Int)} {j c i:Nat} (ao:j<n) (hi:i<n) (o8:j<=i) (x y:fU):U (loop (σ:=(Int×fU×List bx×fU×oS×Unit)) (ρ:=(fU×List bx×fU×oS×Unit)) (fun(wN,Jj,nO,GZ,Ch,_)=>
 bif decide (wN<(j:Int)) then
 (cH nO.length wN).bind fun HS=>
 ((cb nO HS fun QM=>some QM).bind fun QN=>cH QN.length (i:Int)).bind fun S8=>
 (cb nO HS fun QO=>cb QO S8 fun QP=>some QP).bind fun VU=>
 (cH nO.length wN).bind fun HT=>
 ((cb nO HT fun QQ=>some QQ).bind fun QR=>cH QR.length (j:Int)).bind fun S9=>
 (cb nO HT fun QS=>cb QS S9 fun QT=>some QT).bind fun VV=>
 (GI (VU,VV,())).bind fun(UL,_)=>
 (Gv (UL,())).bind fun(I6,_)=>
 (di (Ch.length+([I6]).length)).bind fun _=>
 some (.inl (bN wN,Jj,nO,GZ,(Ch++[I6]),())) else
 some (.inr (Jj,nO,GZ,Ch,()))) (0,x,kH n (fK A G j c),y,[b6 (A i j)],())) fun r=>r=(x,kH n (fK A G j c),y,(A i j::(List.range j).map (xk (cB A (bX G)) i j)).map b6,()):=by
 refine U.steps j (fun m s=>s=((m:Int),x,kH n (fK A G j c),y,(A i j::(List.range m).map (xk (cB A (bX G)) i j)).map b6,())) rfl ?_ ?_
 ·rintro m _ ak rfl;dsimp only;rw[cT (a8 (show(m:Int)<(j:Int) by omega)),cO (by omega)];have ai:(kH n (fK A G j c)).length=n:=dP _ _;have jC:∀k,k<n->∀{aT:Type} (g:List Int->Option aT),cb (kH n (fK A G j c)) k g=g (bz n (fK A G j c k)):=fun k ae aT g=>iz ae;refine U.bs (hb (by rw[ai];omega)) ?_;rw[jC m (by omega)];refine U.bs (y:=i) ?_ ?_
  ·rw[bq,hb (by rw[dP];omega)]
  rw[jC m (by omega),iz hi];refine U.bs rfl ?_;refine U.bs (hb (by rw[ai];omega)) ?_;rw[jC m (by omega)];refine U.bs (y:=j) ?_ ?_
  ·rw[bq,hb (by rw[dP];omega)]
  rw[jC m (by omega),iz ao];refine U.bs rfl ?_;rw[aeZ ak (by omega),aeZ ak (by omega)];refine U.bs (awv (Ik _ _ _ _) (Ik _ _ _ _)) ?_;dsimp only;refine U.bs (axs (TQ _ _)) ?_;dsimp only;rw[fo (by simp;omega)];refine U.ar.2 ?_;rw[List.range_succ,List.map_append,<-List.cons_append,List.map_append];rfl
 ·rintro _ rfl;dsimp only;rw[c1 (a1 (show¬((j:Int)<(j:Int)) by omega))];exact U.ar.2 rfl
def pK (A:Nat->Nat->Option Int) (G:List (List Int)) (j:Nat):Prop:=u6 (lU A (cB A (bX G)) j j)<=0\/yM (cB A (bX G) j j)=0
theorem YG {A:Nat->Nat->Option Int} {G:List (List Int)} {j:Nat} (h:pK A G j):hO A G j=231:=by unfold hO;exact if_pos h
theorem amR {A:Nat->Nat->Option Int} {G:List (List Int)} {j i:Nat} (h:¬pK A G j) (hi:bX G j i=true) (aH:dw (cB A (bX G) j i)=2047):hO A G j=233:=by unfold pK at h;unfold hO;rw[if_neg h,if_neg (fun h=>h i hi aH)]
theorem Q5 {A:Nat->Nat->Option Int} {G:List (List Int)} {j:Nat} (h:¬pK A G j) (aH:∀x∈ck G j,dw (cB A (bX G) j x.toNat)≠2047):hO A G j=0:=by unfold pK at h;unfold hO;rw[if_neg h,if_pos];intro i hi;exact aH (i:Int) (by unfold bX at hi;exact of_decide_eq_true hi)
def sI (A:Nat->Nat->Option Int) (G:List (List Int)) (o:List Int) (j c:Nat):fU:=(o,(bz (j+1) (fun k=>((nL G k).length:Int)),(nL G j++(ck G j).take c,(zA A G j++((ck G j).take c).map (fun i=>cB A (bX G) j i.toNat),()))))
theorem azc {A:Nat->Nat->Option Int} {G:List (List Int)} {n j c w:Nat} (hc:c<(ck G j).length) (hw:(ck G j)[c]=(w:Int)) (ao:j<n) (yH:w<n):(kH n (fK A G j c)).set j ((bz n (fK A G j c j)).set w (cB A (bX G) j w))=kH n (fK A G j (c+1)):=by
 have rL:(ck G j).take (c+1)=(ck G j).take c++[(w:Int)]:=(by rw[lY,cr hc,hw];rfl);unfold kH;rw[kv,kv];refine fl fun m ak=>?_;by_cases g:m=j
 ·subst g;rw[nZ];refine fl fun i hi=>?_;by_cases bt:i=w
  ·subst bt;rw[nZ];unfold fK;rw[if_pos (.inr ⟨rfl,by rw[rL];simp⟩)]
  ·rw[nY _ _ bt];unfold fK;have:(i:Int)∈(ck G m).take (c+1)↔(i:Int)∈(ck G m).take c:=by
    rw[rL,fg,fh];exact⟨fun h=>h.resolve_right (by omega),.inl⟩
   simp only[this]
 ·rw[nY _ _ g];refine fl fun i hi=>?_;unfold fK;have:(m=j/\(i:Int)∈(ck G j).take (c+1))↔(m=j/\(i:Int)∈(ck G j).take c):=by
   constructor<;>(rintro⟨h,_⟩;exact absurd h g)
  simp only[this]
theorem axd {n:Nat} {st az aK:List Int} (ag:n<=5) (ak:ja n n st az aK) (ae:g5 n n st az aK=0) {o:List Int} (aw:fr o n):ya (((n:Int),(n:Int),st,az,aK,()),o,())=some (oy (cl (du st az aK n) o) (o2 n (hQ (du st az aK n)) o) o n):=by
 classical
 have G8:=Ry (E:=hQ (du st az aK n)) aw;have RH:=Zg n (hQ (du st az aK n)) o;have RG:=Zf (E:=hQ (du st az aK n)) ag aw;have nJ:=aw.1;have MO:=fun i j (hi:i<n) (ao:j<n)=>aw9 ak ae aw hi ao;unfold ya;refine aI (adQ ak (by omega)) ?_;have SE:(if g5 n n st az aK≠0 then g5 n n st az aK else if n≠n then 5 else if fr o n then 0 else 90)=0:=(by rw[if_neg (not_not_intro ae),if_neg (not_not_intro rfl),if_pos aw]);rw[SE];dsimp only;rw[c1 (show((0:Int)!=0)=false from rfl)];refine aI (axb ag ak ae aw) ?_;dsimp only;generalize o2 n (hQ (du st az aK n)) o=G at*;generalize du st az aK n=E at*;refine aI (axu RH RG (by omega)) ?_;dsimp only;rw[G8];have R2:(List.range n).map (ck G)=bz n (ck G):=rfl;rw[R2];generalize dY:cl E o=A at*;have Zl:∀i j,e5 (A i j):=fun i j=>(by rw[<-dY];exact qS _);refine U.eq_iff.1 ?_;refine U.bs (jZ (by omega)) ?_;refine U.bJ (P:=fun r=>r=(kE,kH n (fK A G 0 0),())) ?_ ?_
 ·refine U.steps n (fun j s=>s=((j:Int),kE,bz n (fun m=>if m<j then bz n (fK A G 0 0 m) else[]),())) ?_ ?_ ?_
  ·rw[og];rfl
  ·rintro j _ ao rfl;dsimp only;rw[cT (a8 (show(j:Int)<(n:Int) by omega)),cO (by omega)];refine U.bs (jZ (by omega)) ?_;rw[m8 (by rw[dP];omega),kv,og];refine U.ar.2 ?_;have:bz n (fO (fun m=>if m<j then bz n (fK A G 0 0 m) else[]) j (bz n fun _=>0))=bz n (fun m=>if m<j+1 then bz n (fK A G 0 0 m) else[]):=by
    refine fl fun v hv=>?_;by_cases g:v=j
    ·subst g;rw[nZ,if_pos (by omega)];exact fl fun i _=>azd.symm
    ·rw[nY _ _ g];by_cases bt:v<j
     ·rw[if_pos bt,if_pos (by omega)]
     ·rw[if_neg bt,if_neg (by omega)]
   rw[this]
  ·rintro _ rfl;dsimp only;rw[c1 (a1 (show¬((n:Int)<(n:Int)) by omega))];have:bz n (fun m=>if m<n then bz n (fK A G 0 0 m) else[])=kH n (fK A G 0 0):=fl fun v hv=>if_pos hv;rw[this];exact U.ar.2 rfl
 rintro _ rfl;dsimp only;rw[fo (by simp;omega),Option.bind_some];refine U.bJ (P:=fun q=>(q=.inr (oy A G o n))\/(q=.inl (kE,v9 A G o n,())/\oy A G o n=(v9 A G o n,(n:Int),0,()))) ?_ ?_
 ·refine U.steps n (fun j s=>(∀m,m<j->hO A G m=0)/\s=((j:Int),kE,kH n (fK A G j 0),sI A G o j 0,())) ?_ ?_ ?_
  ·exact⟨fun m ak=>absurd ak (by omega),rfl⟩
  ·rintro j _ ao ⟨qH,rfl⟩;dsimp only;rw[cT (a8 (show(j:Int)<(n:Int) by omega)),cO (by omega)];have DU:=Ze qH;have ot:=fun h=>abt (o:=o) qH ao h;obtain⟨r,hr,yF⟩:=X3 (G:=G) (j:=j) (by omega);have mO:=FR (G:=G) j;have DY:=Ik A (bX G);have s0:cB A (bX G) j j=pt (lU A (cB A (bX G)) j j) 0:=by
    rw[wI];unfold qu;rw[if_pos rfl]
   have Sz:∀i,i≠j->bX G j i=true->cB A (bX G) j i=qb (lU A (cB A (bX G)) j i) (gw (cB A (bX G) j j)) 0:=fun i J R=>(by rw[wI];unfold qu;rw[if_neg J,if_pos R,<-s0]);have ws:∀i,∀d∈(A i j::(List.range j).map (xk (cB A (bX G)) i j)),e5 d:=fun i d aP=>by
    rcases d4.1 aP with rfl|aP
    ·exact Zl _ _
    ·obtain⟨m,_,rfl⟩:=dz.1 aP;exact ae1 _ _ _ _
   have aBp:=NA G j;have aBB:=Pl A G j;have aL:j*G.length<=5*5:=l1 (by omega) (by omega);refine U.bJ (P:=fun q=>(∃e,q=.inr (.inr (.inr e))/\e=oy A G o n)\/(q=.inl (kE,kH n (fK A G j (ck G j).length),sI A G o j (ck G j).length,())/\hO A G j=0)) ?_ ?_
   ·refine U.steps (ck G j).length (fun c s=>(0<c->¬pK A G j)/\(∀x∈(ck G j).take c,dw (cB A (bX G) j x.toNat)≠2047)/\s=((c:Int),kE,kH n (fK A G j c),sI A G o j c,())) ?_ ?_ ?_
    ·exact⟨fun h=>absurd h (by omega),by simp,rfl⟩
    ·rintro c _ hc ⟨Hw,aH,rfl⟩;dsimp only;have M1:bf (bz n (ck G)) (j:Int)=some (ck G j):=(by rw[dC (by rw[dP];omega),l9]);refine U.bs M1 ?_;rw[cT (a8 (show(c:Int)<aS (ck G j) by rw[bL];omega)),cO (by omega)];obtain⟨w,hw,yH,Z7,Hv⟩:=KI (G:=G) (j:=j) (List.getElem_mem hc);have Np:w<n:=(by omega);have rL:(ck G j).take (c+1)=(ck G j).take c++[(w:Int)]:=(by rw[List.take_add_one,List.getElem?_eq_getElem hc,hw];rfl);have aqC:w=j↔c=0:=by
      constructor
      ·intro h;rcases nl c with g|g
       ·exact g
       ·have R:=i7.1 (KH G j) 0 c (by omega) hc g;have ac:(ck G j)[0]'(by omega)=(j:Int):=by simp only[hr,List.getElem_cons_zero]
        omega
      ·rintro rfl;have ac:(ck G j)[0]'(by omega)=(j:Int):=by simp only[hr,List.getElem_cons_zero]
       omega
     refine U.bJ (P:=fun q=>(∃e,q=.inr (.inr (.inr (.inr (.inr e))))/\e=oy A G o n)\/(q=.inl (kE,kH n (fK A G j (c+1)),sI A G o j (c+1),())/\¬pK A G j/\dw (cB A (bX G) j w)≠2047)) ?_ ?_
     ·refine U.bs M1 (U.bs (y:=(w:Int)) (by rw[dC hc,hw]) ?_);refine U.bs (MO w j Np ao) ?_;dsimp only;refine U.bJ (axh ag Zl ao Np Z7 kE (sI A G o j c)) ?_;rintro _ rfl;dsimp only;refine U.bs (adW (ws w) (by simp;omega)) ?_;dsimp only;change U (Option.bind (bif (w:Int)==(j:Int) then(GJ (b6 (lU A (cB A (bX G)) j w),())).bind _ else _) _) _;rw[eY];refine U.bJ (P:=fun q=>(∃e,q=.inr (.inr (.inr (.inr (.inr (.inr e)))))/\e=oy A G o n)\/(q=.inl (cB A (bX G) j w,kE,kH n (fK A G j c),sI A G o j c,())/\¬pK A G j)) ?_ ?_
      ·rw[cC];refine U.ite (fun g=>?_) (fun g=>?_)
       ·obtain rfl:w=j:=(by omega);have aa:pK A G w->oy A G o n=(kE,(w:Int),231,()):=fun h=>by
         rw[ot (by rw[YG h];decide),if_pos (YG h)]
        refine U.bs (axK (EZ _ _ _ _)) ?_;dsimp only;rw[<-s0];refine U.bJ (P:=fun q=>q=(decide (pK A G w),kE,kH n (fK A G w c),sI A G o w c,())) ?_ ?_
        ·refine U.bs (axt (EZ _ _ _ _)) ?_;dsimp only;rw[X6];refine U.ite (fun bt=>?_) (fun bt=>?_)
         ·refine U.ar.2 ?_;rw[a8 (show pK A G w from .inl bt)]
         ·refine U.bs (aqX (DY w w)) (U.ar.2 ?_);have:pK A G w↔yM (cB A (bX G) w w)=0:=⟨fun h=>h.resolve_left bt,.inr⟩;rw[decide_eq_decide.2 this]
        ·rintro _ rfl;dsimp only;rw[cC];refine U.ite (fun bt=>?_) (fun bt=>?_)
         ·exact U.ar.2 (.inl ⟨_,rfl,(aa bt).symm⟩)
         ·exact U.ar.2 (.inr ⟨rfl,bt⟩)
       ·have R3:0<c:=by
         rcases nl c with h|h
         ·exact absurd (aqC.2 h) (by omega)
         ·exact h
        have ai:(kH n (fK A G j c)).length=n:=dP _ _;have jC:∀{aT:Type} (g:List Int->Option aT),cb (kH n (fK A G j c)) j g=g (bz n (fK A G j c j)):=fun g=>iz ao;refine U.bs (hb (by rw[ai];omega)) ?_;refine U.bs (y:=j) ?_ ?_
        ·rw[jC,bq,hb (by rw[dP];omega)]
        rw[jC,iz ao];refine U.bs rfl ?_;have yw:(j:Int)∈(ck G j).take c:=by
         rw[hr];cases c with
         |zero=>omega
         |succ c=>simp
        have Z4:fK A G j c j j=cB A (bX G) j j:=(by unfold fK;exact if_pos (.inr ⟨rfl,yw⟩));rw[Z4];refine U.bs (Je (DY j j)) ?_;dsimp only;refine U.bs (awD (EZ _ _ _ _) (qS _)) ?_;change U (some (Sum.inl (qb (lU A (cB A (bX G)) j w) (gw (cB A (bX G) j j)) 0,kE,kH n (fK A G j c),sI A G o j c,()))) _;rw[<-Sz w (by omega) Hv];exact U.ar.2 (.inr ⟨rfl,Hw R3⟩)
      ·rintro q (⟨e,rfl,aE⟩|⟨rfl,Nd⟩)
       ·exact U.ar.2 (.inl ⟨e,rfl,aE⟩)
       ·dsimp only;refine U.bs (OP (DY j w)) ?_;dsimp only;rw[Bool.not_not,cC];refine U.ite (fun g=>?_) (fun g=>?_)
        ·refine U.ar.2 (.inl ⟨_,rfl,?_⟩);have aE:=amR Nd Hv g;rw[ot (by rw[aE];decide),aE,if_neg (by decide)];rfl
        ·have ai:(kH n (fK A G j c)).length=n:=dP _ _;have jC:∀{aT:Type} (g:List Int->Option aT),cb (kH n (fK A G j c)) j g=g (bz n (fK A G j c j)):=fun g=>iz ao;refine U.bs (hb (by rw[ai];omega)) ?_;refine U.bs (y:=w) ?_ ?_
         ·rw[jC,bq,hb (by rw[dP];omega)]
         rw[jC,iz Np];refine U.bs rfl ?_;dsimp only;rw[azc hc hw ao Np];unfold sI;dsimp only;rw[fo (by simp;omega),Option.bind_some,fo (by simp;omega),Option.bind_some];refine U.ar.2 (.inr ⟨?_,Nd,g⟩);rw[rL,List.map_append,List.append_assoc,List.append_assoc];rfl
     ·rintro q (⟨e,rfl,aE⟩|⟨rfl,Nd,aph⟩)
      ·exact U.ar.2 (.inl ⟨e,rfl,aE⟩)
      ·refine U.ar.2 ⟨fun _=>Nd,fun x ab=>?_,rfl⟩;rw[rL,fg,fh] at ab;rcases ab with ab|rfl
       ·exact aH x ab
       ·exact aph
    ·rintro _ ⟨Hw,aH,rfl⟩;dsimp only;have M1:bf (bz n (ck G)) (j:Int)=some (ck G j):=(by rw[dC (by rw[dP];omega),l9]);refine U.bs M1 ?_;rw[c1 (a1 (show¬(((ck G j).length:Nat):Int)<aS (ck G j) by rw[bL];omega))];rw[List.take_of_length_le (Nat.le_refl _)] at aH;exact U.ar.2 (.inr ⟨rfl,Q5 (Hw (by rw[hr];simp)) aH⟩)
   ·rintro q (⟨e,rfl,aE⟩|⟨rfl,aV⟩)
    ·exact U.ar.2 (.inl (by rw[aE]))
    ·dsimp only;unfold sI;dsimp only;rw[List.take_of_length_le (Nat.le_refl _)];rw[fo (by rw[dP];simp;omega),Option.bind_some];refine U.ar.2 ⟨fun m ak=>?_,?_⟩
     ·rcases ct m j with h|h
      ·exact qH m h
      ·obtain rfl:m=j:=(by omega);exact aV
     ·have aA:kH n (fK A G j (ck G j).length)=kH n (fK A G (j+1) 0):=fl fun m _=>fl fun i _=>azb;rw[aA,yi (j+1),List.take_zero,oM,xL,oM];rfl
  ·rintro _ ⟨qH,rfl⟩;dsimp only;rw[c1 (a1 (show¬((n:Int)<(n:Int)) by omega))];refine U.ar.2 (.inr ⟨?_,Tq qH⟩);unfold sI v9;rw[List.take_zero,List.append_nil,List.map_nil,List.append_nil]
 ·rintro q (rfl|⟨rfl,h⟩)
  ·exact U.ar.2 rfl
  ·rw[h];exact U.ar.2 rfl
theorem axc {rows cols:Nat} {st az aK:List Int} (ak:ja rows cols st az aK) {o:List Int} (aJ:o.length<=1000000) (h:tx rows cols st az aK o≠0):ya (((rows:Int),(cols:Int),st,az,aK,()),o,())=some (kE,0,tx rows cols st az aK o,()):=by unfold ya;refine aI (adQ ak aJ) ?_;dsimp only;change(bif tx rows cols st az aK o !=0 then _ else _)=_;rw[ee,a1 h];rfl
theorem ID {m:Int} {a k:Nat} (h:m.natAbs=2*a+1):bQ (m*2^k)=m/\gH (m*2^k)=(k:Int)-65536:=by have J:(m*2^k).natAbs=(2*a+1)*2^k:=(by rw[wV,h]);have R:=Jz J;unfold bQ gH;rw[R];exact⟨Int.mul_ediv_cancel _ (by have:(0:Int)<2^k:=vl (by decide);omega),rfl⟩
theorem UB {m:Int} (h:m≠0) (k:Nat):m*2^k≠0:=Int.mul_ne_zero h (by have:(0:Int)<2^k:=vl (by decide);omega)
theorem TJ {m:Int} {a:Nat} (h:m.natAbs=2*a+1) {t:Nat} {e:Int} {k:Nat} (ae:e+t+65536=(k:Int)) (J:-65536<=e) (R:e+t+aU m.natAbs<=65536):hR (m*2^t) e=some (m*2^k):=by have ak:m≠0:=(by omega);have ac:(m*2^t).natAbs=(2*a+1)*2^t:=(by rw[wV,h]);have aL:=Jz ac;have aY:aU (m*2^t).natAbs=aU m.natAbs+t:=(by rw[wV,vF (by omega)]);unfold hR;rw[if_neg (UB ak t),aL,aY,if_neg (by omega)];obtain⟨d,aP⟩:=fL (show 0<=e+65536 by omega);rw[aP];show some (tv (m*2^t) (d:Int))=_;rw[xf,ra,<-pG,show t+d=k by omega]
theorem Ra {z m:Int} {a t k:Nat} (a2:z=m*2^t) (h:m.natAbs=2*a+1) (ae:(t:Int)+65536=(k:Int)) (R:t+aU m.natAbs<=65536):uJ z=some (m*2^k):=by unfold uJ;rw[a2];exact TJ h (by omega) (by decide) (by omega)
theorem Re {m:Int} {a k:Nat} (h:m.natAbs=2*a+1) (aV:0<m) (mode:Int):uZ (some (m*2^k)) mode=m2 false m.natAbs ((k:Int)-65536) false mode:=by obtain⟨J,R⟩:=ID (k:=k) h;show Jd (m*2^k) mode=_;unfold Jd;rw[if_neg (UB (by omega) k),J,R,a1];have:(0:Int)<m*2^k:=vk aV (vl (by decide));omega
theorem anj {m:Int} {a k:Nat} (h:m.natAbs=2*a+1) (aV:0<m):pt (some (m*2^k)) 0=w9 (m3 m.natAbs ((k:Int)-65536)) m.natAbs ((k:Int)-65536) 0:=by obtain⟨J,R⟩:=ID (k:=k) h;have:(0:Int)<m*2^k:=vk aV (vl (by decide));show(if m*2^k<0 then(9221120237041090560:Int) else if m*2^k=0 then 0 else zl (m*2^k) 0)=_;rw[if_neg (by omega),if_neg (by omega)];unfold zl;rw[J,R]
theorem ani {m fE:Int} {a b k bD:Nat} (h:m.natAbs=2*a+1) (aV:0<m) (g:fE.natAbs=2*b+1) (oh:0<fE):qb (some (m*2^k)) (some (fE*2^bD)) 0=w6 (qa m.natAbs fE.natAbs) m.natAbs fE.natAbs false ((k:Int)-65536-((bD:Int)-65536)) 0:=by obtain⟨J,R⟩:=ID (k:=k) h;obtain⟨ac,aL⟩:=ID (k:=bD) g;have fy:(0:Int)<m*2^k:=vk aV (vl (by decide));have eu:(0:Int)<fE*2^bD:=vk oh (vl (by decide));show(if fE*2^bD=0 then(9221120237041090560:Int) else if m*2^k=0 then 0 else B5 (m*2^k) (fE*2^bD) 0)=_;rw[if_neg (by omega),if_neg (by omega)];unfold B5;rw[J,R,ac,aL,a1 (by omega),a1 (by omega)];rfl
theorem Mr {f m:Int} {a t k:Nat} (h:m.natAbs=2*a+1) (aH:(if f<9223372036854775808 then if dw f=0 then hp f else hp f+4503599627370496 else-(if dw f=0 then hp f else hp f+4503599627370496))=m*2^t) (aE:dw f≠2047) (ae:(if dw f=0 then-1074 else dw f-1075)+(t:Int)+65536=(k:Int)) (R:(if dw f=0 then-1074 else dw f-1075)+(t:Int)+aU m.natAbs<=65536):gw f=some (m*2^k):=by unfold gw;rw[if_neg aE,aH];refine TJ h ae ?_ R;have:=Mu f;split<;>omega
theorem ny:uZ (uJ 4) 0=4616189618054758400:=by rw[Ra (m:=1) (a:=0) (t:=2) (k:=65538) (by decide) (by decide) (by decide) (by decide),Re (a:=0) (by decide) (by decide)];decide
theorem cE:uZ (uJ 2) 0=4611686018427387904:=by rw[Ra (m:=1) (a:=0) (t:=1) (k:=65537) (by decide) (by decide) (by decide) (by decide),Re (a:=0) (by decide) (by decide)];decide
theorem v7:uZ (uJ 5) 0=4617315517961601024:=by rw[Ra (m:=5) (a:=2) (t:=0) (k:=65536) (by decide) (by decide) (by decide) (by decide),Re (a:=2) (by decide) (by decide)];decide
theorem v4:gw 4616189618054758400=some (1*2^65538):=Mr (a:=0) (t:=52) (by decide) (by decide) (by decide) (by decide) (by decide)
theorem gz:gw 4611686018427387904=some (1*2^65537):=Mr (a:=0) (t:=52) (by decide) (by decide) (by decide) (by decide) (by decide)
theorem Pf:gw 4617315517961601024=some (5*2^65536):=Mr (a:=2) (t:=50) (by decide) (by decide) (by decide) (by decide) (by decide)
theorem v1:gw 4607182418800017408=some (1*2^65536):=Mr (a:=0) (t:=52) (by decide) (by decide) (by decide) (by decide) (by decide)
theorem bw:pt (some (1*2^65538)) 0=4611686018427387904:=by rw[anj (a:=0) (by decide) (by decide)];decide+kernel
theorem aN:qb (some (1*2^65537)) (some (1*2^65537)) 0=4607182418800017408:=by rw[ani (a:=0) (b:=0) (by decide) (by decide) (by decide) (by decide)];decide
def GX:List Int:=[0,1,1]
def GY:List Int:=[0,2,3]
def A1:List Int:=[4616189618054758400,4611686018427387904,4617315517961601024]
theorem anl:ja 2 2 GY GX A1 where
 hr:=by decide
 hc:=by decide
 hi:=by decide
 hs:=by decide
 hv:=by decide
 hw:=fun v hv=>by unfold A1 at hv;simp only[d4,List.not_mem_nil,or_false] at hv;rcases hv with rfl|rfl|rfl<;>exact⟨by decide,by decide⟩
theorem anm:fk 2 2 GY GX A1 where
 len:=rfl
 first:=rfl
 mono:=fun j ao=>by have:j=0\/j=1:=(by omega);rcases this with rfl|rfl<;>decide
 last:=rfl
 val:=rfl
 rng:=fun j k ao J R=>by
  have:j=0\/j=1:=(by omega);rcases this with rfl|rfl
  ·change(0:Int)<=k at J;change(k:Int)<2 at R;have:k=0\/k=1:=(by omega);rcases this with rfl|rfl<;>exact⟨by decide,by decide⟩
  ·change(2:Int)<=k at J;change(k:Int)<3 at R;have:k=2:=(by omega);subst this;exact⟨by decide,by decide⟩
 asc:=fun j k ao J R=>by
  have:j=0\/j=1:=(by omega);rcases this with rfl|rfl
  ·change(0:Int)<k at J;change(k:Int)<2 at R;have:k=1:=(by omega);subst this;decide
  ·change(2:Int)<k at J;change(k:Int)<3 at R;omega
theorem am7:g5 2 2 GY GX A1=0:=by refine od.2 ⟨anm,fun i hi=>?_⟩;have:i=0\/i=1\/i=2:=(by have:A1.length=3:=rfl;omega);rcases this with rfl|rfl|rfl<;>decide
theorem ang:fr [0,1] 2:=⟨rfl,fun x ab=>by
 simp only[d4,List.not_mem_nil,or_false] at ab;rcases ab with rfl|rfl<;>exact⟨by decide,by decide⟩,by decide⟩
def v5:List cD:=[(0,0,4616189618054758400,()),(1,0,4611686018427387904,()),(1,1,4617315517961601024,())]
theorem ana:du GY GX A1 2=v5:=rfl
def ho:List (List Int):=[[1],[0]]
theorem anb:o2 2 (hQ v5) [0,1]=ho:=by decide
theorem Mq:ck ho 0=[0,1]:=by have aV:ng ho 0 0:=.inl rfl;have J:ng ho 0 1:=.inr ⟨by decide,.one ⟨by decide,by decide⟩⟩;unfold ck nt;show((List.filter _ [0,1]).map _)=_;simp[nj,aV,J]
theorem Q9:ck ho 1=[1]:=by have J:ng ho 1 1:=.inl rfl;unfold ck nt;show((List.filter _ [0,1]).map _)=_;simp[nj,J]
theorem am2:cl v5 [0,1] 0 0=some (1*2^65538):=v4
theorem am3:cl v5 [0,1] 1 0=some (1*2^65537):=gz
theorem am4:cl v5 [0,1] 1 1=some (5*2^65536):=Pf
theorem aeT {d:Option Int} (h:e5 d):j5 [d]=d:=by
 cases d with
 |none=>rfl
 |some v=>
  have hr:=h v rfl;show(if(true&&true)=true then vI (v+0) else none)=_;rw[if_pos (show(true&&true)=true from rfl),Int.add_zero];unfold vI;rw[if_pos hr]
theorem anf {K:Nat} (cA:(K:Int)-65536=0):te (some (1*2^K)) (some (1*2^K))=some (1*2^K):=by obtain⟨J,R⟩:=ID (m:=1) (a:=0) (k:=K) (by decide);have ac:db (1*2^K)=0:=(by unfold db;rw[if_neg (UB (by decide) _),R,cA]);show hR (bQ (1*2^K)*bQ (1*2^K)) (db (1*2^K)+db (1*2^K))=_;rw[J,ac];exact TJ (m:=1) (a:=0) (t:=0) (by decide) (by omega) (by decide) (by decide)
theorem ane:te (some (1*2^65536)) (some (1*2^65536))=some (1*2^65536):=anf (by decide)
theorem am5 (K:Nat):(5:Int)*2^K+(-(1*2^K)+0)=1*2^(K+2):=by rw[Int.pow_succ,Int.pow_succ];generalize(2:Int)^K=x;omega
theorem am6 {K L:Nat} (h:K+2=L) (hr:e5 (some (1*2^L))):j5 [some ((5:Int)*2^K),ED (some (1*2^K))]=some (1*2^L):=by show(if(true&&(true&&true))=true then vI (5*2^K+(-(1*2^K)+0)) else none)=_;rw[if_pos (show(true&&(true&&true))=true from rfl),am5,h];unfold vI;rw[if_pos (hr _ rfl)]
abbrev ke:Nat->Nat->Option Int:=cl v5 [0,1]
theorem Rf:lU ke (cB ke (bX ho)) 0 0=some (1*2^65538):=by show j5 [cl v5 [0,1] 0 0]=_;rw[am2,<-v4];exact aeT (qS _)
theorem ank:lU ke (cB ke (bX ho)) 0 1=some (1*2^65537):=by show j5 [cl v5 [0,1] 1 0]=_;rw[am3,<-gz];exact aeT (qS _)
theorem Rb:cB ke (bX ho) 0 0=4611686018427387904:=by rw[wI];unfold qu;rw[if_pos rfl,Rf,bw]
theorem anh:bX ho 0 1=true:=by unfold bX;rw[Mq];decide
theorem Rc:cB ke (bX ho) 0 1=4607182418800017408:=by rw[wI];unfold qu;rw[if_neg (by decide),if_pos anh,ank,Rf,bw,gz,aN]
theorem YH:lU ke (cB ke (bX ho)) 1 1=some (1*2^65538):=by show j5 [cl v5 [0,1] 1 1,ED (te (gw (cB ke (bX ho) 0 1)) (gw (cB ke (bX ho) 0 1)))]=_;rw[am4,Rc,v1,ane];exact am6 rfl (by rw[<-v4];exact qS _)
theorem Rd:cB ke (bX ho) 1 1=4611686018427387904:=by rw[wI];unfold qu;rw[if_pos rfl,YH,bw]
theorem aeF {z:Int} (h:0<z):eT z=1:=by unfold eT;rw[if_neg (by omega),if_neg (by omega)]
theorem adw (k:Nat):(0:Int)<1*2^k:=vk (by decide) (vl (by decide))
theorem am8:hO ke ho 0=0:=by
 refine Q5 ?_ ?_
 ·unfold pK;rw[Rf,Rb];rintro(h|h)
  ·have:u6 (some (1*2^65538))=1:=aeF (adw _);omega
  ·revert h;decide
 ·intro x ab;rw[Mq] at ab;simp only[d4,List.not_mem_nil,or_false] at ab;rcases ab with rfl|rfl
  ·show dw (cB ke (bX ho) 0 0)≠2047;rw[Rb];decide
  ·show dw (cB ke (bX ho) 0 1)≠2047;rw[Rc];decide
theorem am9:hO ke ho 1=0:=by
 refine Q5 ?_ ?_
 ·unfold pK;rw[YH,Rd];rintro(h|h)
  ·have:u6 (some (1*2^65538))=1:=aeF (adw _);omega
  ·revert h;decide
 ·intro x ab;rw[Q9] at ab;simp only[d4,List.not_mem_nil,or_false] at ab;subst ab;show dw (cB ke (bX ho) 1 1)≠2047;rw[Rd];decide
theorem anc:ue ((2,(2,(GY,(GX,(A1,()))))),[0,1],())=some (([0,1],([0,2,3],([0,1,1],([4611686018427387904,4607182418800017408,4611686018427387904],())))),2,0,()):=by
 have h:=Wm (n:=2) (by decide) anl am7 ang;rw[ana,anb,Tq (fun m ak=>by
  have:m=0\/m=1:=(by omega);rcases this with rfl|rfl
  ·exact am8
  ·exact am9)] at h
 refine h.trans ?_;have ek:j6 ke ho 0=[4611686018427387904,4607182418800017408]:=(by unfold j6;rw[Mq,ff,ff,xL];show[cB ke (bX ho) 0 0,cB ke (bX ho) 0 1]=_;rw[Rb,Rc]);have aA:j6 ke ho 1=[4611686018427387904]:=(by unfold j6;rw[Q9,ff,xL];show[cB ke (bX ho) 1 1]=_;rw[Rd]);have i0:nL ho 0=[]:=rfl;have i1:nL ho 1=[0,1]:=(by show[]++ck ho 0=_;rw[Mq];rfl);have i2:nL ho 2=[0,1,1]:=(by show nL ho 1++ck ho 1=_;rw[i1,Q9];rfl);have fe:zA ke ho 2=[4611686018427387904,4607182418800017408,4611686018427387904]:=(by show([]++j6 ke ho 0)++j6 ke ho 1=_;rw[ek,aA];rfl);unfold v9;rw[yi,yi,yi,YL,i0,i1,i2,fe];rfl
theorem Wb (a b:List Int) (aC:a.length<4611686018427387904):LD (a,b,())=some (a==b,()):=Fu a b aC
theorem Xj:Gk ()=some (true,()):=by unfold Gk;refine aI (ON (by decide) (by decide)) (aI (ON (by decide) (by decide)) (aI (ON (by decide) (by decide)) ?_));dsimp only;rw[ny,cE,v7];refine aI anc ?_;dsimp only;rw[cT (by decide),cT (by decide)];refine aI (Fu _ _ (by decide)) ?_;dsimp only;rw[cT (by decide)];refine aI (Wb _ _ (by decide)) ?_;rfl
def oR (rows j i:Nat) (st az aK:List Int):Prop:=∃k,k<=az.length/\fk rows j st (az.take k) (aK.take k)/\aK.length=az.length/\(∀t,k<=t->t<az.length->0<=az.getD t 0/\az.getD t 0<(i:Int))/\(∀t,k<t->t<az.length->az.getD (t-1) 0<az.getD t 0)
theorem fk.open {rows j:Nat} {st az aK:List Int} (h:fk rows j st az aK):oR rows j 0 st az aK:=
 ⟨az.length,bU _,by rw[dW (bU _),dW (Nat.le_of_eq h.val)];exact h,h.val,fun t J R=>absurd R (by omega),fun t J R=>absurd R (by omega)⟩
theorem oR.skip {rows j i:Nat} {st az aK:List Int} (h:oR rows j i st az aK):oR rows j (i+1) st az aK:=by obtain⟨k,J,R,ac,aL,aY⟩:=h;exact⟨k,J,R,ac,fun t a b=>by have:=aL t a b;omega,aY⟩
theorem G6 {l:List Int} {x:Int} {t:Nat} (h:t<l.length):(l++[x]).getD t 0=l.getD t 0:=by rw[lW,sk h,<-lW]
theorem Rv {l:List Int} {x:Int}:(l++[x]).getD l.length 0=x:=by rw[lW,tR (bU _)];simp
theorem oR.add {rows j i:Nat} {st az aK:List Int} (h:oR rows j i st az aK) (v:Int):oR rows j (i+1) st (az++[(i:Int)]) (aK++[v]):=by
 obtain⟨k,J,R,ac,aL,aY⟩:=h;refine⟨k,by simp;omega,?_,by simp;omega,fun t a b=>?_,fun t a b=>?_⟩
 ·rw[zY J,zY (by omega)];exact R
 ·rw[tS,List.length_singleton] at b;rcases ct t az.length with g|g
  ·rw[G6 g];have:=aL t a g;omega
  ·obtain rfl:t=az.length:=(by omega);rw[Rv];omega
 ·rw[tS,List.length_singleton] at b;rcases ct t az.length with g|g
  ·rw[G6 g,G6 (by omega)];exact aY t a g
  ·obtain rfl:t=az.length:=(by omega);rw[Rv,G6 (by omega)];exact(aL (az.length-1) (by omega) (by omega)).2
theorem Rw {l:List Int} {k t:Nat} (h:t<k):(l.take k).getD t 0=l.getD t 0:=by rw[lW,pH h,<-lW]
theorem oR.close {rows j:Nat} {st az aK:List Int} (h:oR rows j rows st az aK):fk rows (j+1) (st++[(az.length:Int)]) az aK:=by
 obtain⟨k,J,R,ac,aL,aY⟩:=h;have ai:=R.len;have DX:=R.last;rw[eW,hU J] at DX;have pa:(st++[(az.length:Int)]).getD (j+1) 0=(az.length:Int):=(by rw[<-ai];exact Rv);have pW:∀c,c<=j->(st++[(az.length:Int)]).getD c 0=st.getD c 0:=fun c hc=>G6 (by omega);have fb:∀c,c<=j->st.getD c 0<=(k:Int):=fun c hc=>(by have:=R.uN c hc;rw[eW,hU J] at this;exact this);refine⟨by simp[ai],by rw[pW 0 (by omega)];exact R.first,fun c hc=>?_,pa,ac,fun c t hc a b=>?_,fun c t hc a b=>?_⟩
 ·rcases ct c j with g|g
  ·rw[pW c (by omega),pW (c+1) (by omega)];exact R.mono c g
  ·obtain rfl:c=j:=(by omega);rw[pW c (by omega),pa,DX];omega
 ·rcases ct c j with g|g
  ·rw[pW c (by omega)] at a;rw[pW (c+1) (by omega)] at b;have aa:=fb (c+1) (by omega);have:=R.rng c t g a b;rw[Rw (by omega)] at this;exact this
  ·obtain rfl:c=j:=(by omega);rw[pW c (by omega)] at a;rw[pa] at b;exact aL t (by omega) (by omega)
 ·rcases ct c j with g|g
  ·rw[pW c (by omega)] at a;rw[pW (c+1) (by omega)] at b;have aa:=fb (c+1) (by omega);have:=R.asc c t g a b;rw[Rw (by omega),Rw (by omega)] at this;exact this
  ·obtain rfl:c=j:=(by omega);rw[pW c (by omega)] at a;rw[pa] at b;exact aY t (by omega) (by omega)
theorem fk.empty (rows:Nat):fk rows 0 [0] [] []:=⟨rfl,rfl,fun j ao=>absurd ao (by omega),rfl,rfl,fun j k ao=>absurd ao (by omega),fun j k ao=>absurd ao (by omega)⟩
structure xD (rows cols:Nat) (m:cW):Prop where
 ex:∃st az aK,m=((rows:Int),(cols:Int),st,az,aK,())/\fk rows cols st az aK/\(∀v∈aK,eE v)/\az.length<=cols*rows
theorem xD.small {rows cols:Nat} (hr:rows<=5) (hc:cols<=5) {st az aK:List Int} (J:fk rows cols st az aK) (R:∀v∈aK,eE v) (ac:az.length<=cols*rows):ja rows cols st az aK:=by have aL:cols*rows<=5*5:=l1 hc hr;exact⟨by omega,by omega,by omega,by rw[J.len];omega,by rw[J.val];omega,R⟩
theorem Wf {lS:List Int} (ai:lS.length<=9223372036854775807) {rows cols:Nat} (hr:rows<=5) (hc:cols<=5) (pA:Int):U (Gf (lS,(rows:Int),(cols:Int),pA,())) fun r=>xD rows cols r.1:=by
 have aak:cols*rows<=5*5:=Nat.mul_le_mul hc hr;unfold Gf;dsimp only;refine U.bJ (P:=fun r=>xD rows cols r.2.1) ?_ (by rintro⟨a,b,_⟩ h;exact U.ar.2 h);refine U.steps cols (fun j s=>∃st az aK,s=((j:Int),((0:Int),((0:Int),([],([],([],()))))),((rows:Int),(cols:Int),st,az,aK,()),())/\fk rows j st az aK/\(∀v∈aK,eE v)/\az.length<=j*rows) ?_ ?_ ?_
 ·exact⟨[0],[],[],rfl,fk.empty rows,by simp,by simp⟩
 ·rintro j _ ao ⟨st,az,aK,rfl,J,R,ac⟩;have apv:j*rows+rows<=5*5:=by
   have:(j+1)*rows<=cols*rows:=jQ _ ao;rw[ie,lx] at this;omega
  dsimp only;rw[cT (a8 (show(j:Int)<(cols:Int) by omega)),cO (by omega)];refine U.bJ (P:=fun r=>∃az aK,r=(((0:Int),((0:Int),([],([],([],()))))),((rows:Int),(cols:Int),st,az,aK,()),())/\oR rows j rows st az aK/\(∀v∈aK,eE v)/\az.length<=j*rows+rows) ?_ ?_
  ·refine U.steps rows (fun i s=>∃az aK,s=((i:Int),((0:Int),((0:Int),([],([],([],()))))),((rows:Int),(cols:Int),st,az,aK,()),())/\oR rows j i st az aK/\(∀v∈aK,eE v)/\az.length<=j*rows+i) ?_ ?_ ?_
   ·exact⟨az,aK,rfl,J.open,R,by omega⟩
   ·rintro i _ hi ⟨az,aK,rfl,bS,bt,cY⟩;have pX:aK.length=az.length:=by
     obtain⟨k,_,_,h,_⟩:=bS;exact h
    dsimp only;rw[cT (a8 (show(i:Int)<(rows:Int) by omega)),cO (by omega)];refine U.bJ (P:=fun r=>∃az aK,r=(((0:Int),((0:Int),([],([],([],()))))),((rows:Int),(cols:Int),st,az,aK,()),())/\oR rows j (i+1) st az aK/\(∀v∈aK,eE v)/\az.length<=j*rows+(i+1)) ?_ ?_
    ·refine U.bJ (afD lS ai _) ?_;rintro⟨w,_⟩ hw;dsimp only at hw|-;rw[zt (by decide) (by decide),Option.bind_some];unfold ji;rw[if_pos (by decide),Option.bind_some,cC];refine U.ite (fun g=>?_) (fun g=>?_)
     ·rw[fo (by simp;omega),Option.bind_some];refine U.bJ (atA hw pA) ?_;rintro⟨v,_⟩ hv;dsimp only at hv|-;rw[fo (by simp;omega),Option.bind_some];refine U.ar.2 ⟨_,_,rfl,bS.add v,fun x ab=>?_,by simp;omega⟩;rcases List.mem_append.1 ab with ab|ab
      ·exact bt x ab
      ·obtain rfl:=fh.1 ab;exact hv
     ·exact U.ar.2 ⟨_,_,rfl,bS.skip,bt,by omega⟩
    ·rintro _ ⟨az,aK,rfl,aN,aM,bb⟩;exact U.ar.2 ⟨az,aK,rfl,aN,aM,bb⟩
   ·rintro _ ⟨az,aK,rfl,aN,aM,bb⟩;dsimp only;rw[c1 (a1 (show¬((rows:Int)<(rows:Int)) by omega))];exact U.ar.2 ⟨az,aK,rfl,aN,aM,bb⟩
  ·rintro _ ⟨az,aK,rfl,aN,aM,bb⟩;dsimp only;rw[fo (by rw[J.len];simp;omega),Option.bind_some];refine U.ar.2 ⟨_,_,_,rfl,aN.close,aM,by rw[Nat.add_mul,Nat.one_mul];omega⟩
 ·rintro _ ⟨st,az,aK,rfl,aN,aM,bb⟩;dsimp only;rw[c1 (a1 (show¬((cols:Int)<(cols:Int)) by omega))];exact U.ar.2 ⟨st,az,aK,rfl,aN,aM,bb⟩
theorem afS {rows cols:Nat} {st az aK:List Int} (ak:ja rows cols st az aK) (i:Int) {j:Nat} (ao:j<cols):∃v,eE v/\x9 (((rows:Int),(cols:Int),st,az,aK,()),i,(j:Int),())=some (v,()):=by
 by_cases h:g5 rows cols st az aK=0
 ·exact⟨_,afr (AZ (od.1 h).1 ak.hw) _ _,adO ak h i ao⟩
 ·refine⟨0,⟨by decide,by decide⟩,?_⟩;unfold x9;refine aI (y:=.inr (0,())) ?_ rfl;refine aI ak.ER ?_;dsimp only;rw[ee,a1 h];rfl
theorem ajR {rows cols:Nat} {st az aK:List Int} (ak:ja rows cols st az aK) (bE:fk rows cols st az aK) {i:Nat} (hi:i<rows) {j:Nat} (ao:j<cols):∃b,GA (((rows:Int),(cols:Int),st,az,aK,()),(i:Int),(j:Int),())=some (b,()):=by
 have p7:=bE.pos j (by omega);have fy:=bE.pos (j+1) (by omega);have dp:=bE.uN (j+1) (by omega);have apL:=bE.mono j ao;have d2:=bE.len;have kj:=ak.hi;have hc:=ak.hc;suffices h:U (GA (((rows:Int),(cols:Int),st,az,aK,()),(i:Int),(j:Int),())) fun r=>True by obtain⟨⟨b,_⟩,h,_⟩:=h;exact⟨b,h⟩
 unfold GA;dsimp only;rw[a1 (show¬((i:Int)<0) by omega),a1 (show¬((i:Int)>=(rows:Int)) by omega),a1 (show¬((j:Int)<0) by omega),a1 (show¬((j:Int)>=(cols:Int)) by omega)];refine U.bs (y:=.inl ()) rfl ?_;dsimp only;obtain⟨lo,gp⟩:=Int.eq_ofNat_of_zero_le p7;obtain⟨hi,kA⟩:=Int.eq_ofNat_of_zero_le fy;refine U.bs (y:=(lo:Int)) (by rw[g1 (by omega),gp]) ?_;refine U.bJ (P:=fun r=>True) ?_ ?_
 ·refine U.steps (hi-lo) (fun t s=>s=(((lo+t:Nat):Int),())) rfl ?_ ?_
  ·rintro t _ ah rfl;dsimp only;refine U.bs (y:=(hi:Int)) (by rw[cO (by omega),g1 (by omega),kA]) ?_;rw[cT (a8 (show((lo+t:Nat):Int)<(hi:Int) by omega))];refine U.bs (g1 (by omega)) ?_;rw[eY,cC];refine U.ite (fun _=>U.ar.2 trivial) (fun _=>?_);rw[cO (by omega)];exact U.ar.2 rfl
  ·rintro _ rfl;dsimp only;refine U.bs (y:=(hi:Int)) (by rw[cO (by omega),g1 (by omega),kA]) ?_;rw[c1 (a1 (show¬(((lo+(hi-lo):Nat):Int)<(hi:Int)) by omega))];exact U.ar.2 trivial
 ·rintro(_|r) _
  ·exact U.ar.2 trivial
  ·exact U.ar.2 trivial
theorem afZ {lS:List Int} (ai:lS.length<=9223372036854775807) {n:Nat} (ag:n<=5) (pA:Int):U (LA (lS,(n:Int),pA,())) fun r=>xD n n r.1:=by
 have aak:n*n<=5*5:=Nat.mul_le_mul ag ag;unfold LA;refine U.bs (Iu pA (n:=3) (by decide) (by decide)) ?_;refine U.bJ (Wf ai ag ag _) ?_;rintro⟨g,_⟩ aG;dsimp only at aG|-;obtain⟨aoc,an9,aof,rfl,yv,iE,Sa⟩:=aG.ex;have ZX:=xD.small ag ag yv iE Sa;have MO:=fun(i:Int) (j:Nat) (ao:j<n)=>afS ZX i ao;have aoA:=fun(i j:Nat) (hi:i<n) (ao:j<n)=>ajR ZX yv hi ao;generalize(((n:Int),(n:Int),aoc,an9,aof,()):cW)=g at*;refine U.bJ (P:=fun r=>xD n n r.2.1) ?_ (by rintro⟨a,b,_⟩ h;exact U.ar.2 h);refine U.steps n (fun j s=>∃st az aK,s=((j:Int),((0:Int),((0:Int),([],([],([],()))))),g,((n:Int),(n:Int),st,az,aK,()),())/\fk n j st az aK/\(∀v∈aK,eE v)/\az.length<=j*n) ?_ ?_ ?_
 ·exact⟨[0],[],[],rfl,fk.empty n,by simp,by simp⟩
 ·rintro j _ ao ⟨st,az,aK,rfl,J,R,ac⟩;have apv:j*n+n<=5*5:=by
   have:(j+1)*n<=n*n:=jQ _ ao;rw[ie,lx] at this;omega
  dsimp only;rw[cT (a8 (show(j:Int)<(n:Int) by omega)),cO (by omega)];refine U.bJ (P:=fun r=>∃az aK,r=(((0:Int),((0:Int),([],([],([],()))))),g,((n:Int),(n:Int),st,az,aK,()),())/\oR n j n st az aK/\(∀v∈aK,eE v)/\az.length<=j*n+n) ?_ ?_
  ·refine U.steps n (fun i s=>∃az aK,s=((i:Int),((0:Int),((0:Int),([],([],([],()))))),g,((n:Int),(n:Int),st,az,aK,()),())/\oR n j i st az aK/\(∀v∈aK,eE v)/\az.length<=j*n+i) ?_ ?_ ?_
   ·exact⟨az,aK,rfl,J.open,R,by omega⟩
   ·rintro i _ hi ⟨az,aK,rfl,bS,bt,cY⟩;have pX:aK.length=az.length:=by
     obtain⟨k,_,_,h,_⟩:=bS;exact h
    dsimp only;rw[cT (a8 (show(i:Int)<(n:Int) by omega)),cO (by omega)];refine U.bJ (P:=fun r=>∃az aK,r=(((0:Int),((0:Int),([],([],([],()))))),g,((n:Int),(n:Int),st,az,aK,()),())/\oR n j (i+1) st az aK/\(∀v∈aK,eE v)/\az.length<=j*n+(i+1)) ?_ ?_
    ·have kk:∀(x:Int),eE x->∀v∈aK++[x],eE v:=fun x ab v hv=>by
      rcases fg.1 hv with hv|hv
      ·exact bt v hv
      ·obtain rfl:=fh.1 hv;exact ab
     rw[eY,cC];refine U.ite (fun e=>?_) (fun e=>?_)
     ·refine U.bs (adU (by decide) (by decide)) ?_;dsimp only;refine U.bJ (P:=fun r=>∃L:List (Option Int),r=(((0:Int),((0:Int),([],([],([],()))))),g,((n:Int),(n:Int),st,az,aK,()),L.map b6,())/\(∀d∈L,e5 d)/\L.length<=n+1) ?_ ?_
      ·refine U.steps n (fun k s=>∃L:List (Option Int),s=((k:Int),((0:Int),((0:Int),([],([],([],()))))),g,((n:Int),(n:Int),st,az,aK,()),L.map b6,())/\(∀d∈L,e5 d)/\L.length<=k+1) ?_ ?_ ?_
       ·exact⟨[uJ 1],rfl,by intro d aP;obtain rfl:=fh.1 aP;exact aaW 1,by simp⟩
       ·rintro k _ ae ⟨L,rfl,dp,l2⟩;dsimp only;rw[cT (a8 (show(k:Int)<(n:Int) by omega)),cO (by omega)];refine U.bJ (P:=fun r=>∃L:List (Option Int),r=(((0:Int),((0:Int),([],([],([],()))))),g,((n:Int),(n:Int),st,az,aK,()),L.map b6,())/\(∀d∈L,e5 d)/\L.length<=(k+1)+1) ?_ ?_
        ·rw[ee,<-decide_not,cC];refine U.ite (fun aX=>?_) (fun aX=>?_)
         ·obtain⟨c,hc,Hf⟩:∃c:Nat,(if(k:Int)<(i:Int) then(k:Int) else(i:Int))=(c:Int)/\c<n:=by
           split
           ·exact⟨k,rfl,by omega⟩
           ·exact⟨i,rfl,by omega⟩
          rw[hc];obtain⟨v,hv,SM⟩:=MO (if(k:Int)>(i:Int) then(k:Int) else(i:Int)) c Hf;refine U.bs SM (U.bs (Je hv) (U.bs (axo (qS _)) ?_));rw[fo (by simp;omega)];refine U.ar.2 ⟨L++[PL (gw v)],by simp,fun d aP=>?_,by simp;omega⟩;rcases fg.1 aP with aP|aP
          ·exact dp d aP
          ·obtain rfl:=fh.1 aP;exact aj2 (qS _)
         ·exact U.ar.2 ⟨L,rfl,dp,by omega⟩
        ·rintro _ ⟨L,rfl,dp,l2⟩;exact U.ar.2 ⟨L,rfl,dp,l2⟩
       ·rintro _ ⟨L,rfl,dp,l2⟩;dsimp only;rw[c1 (a1 (show¬((n:Int)<(n:Int)) by omega))];exact U.ar.2 ⟨L,rfl,dp,l2⟩
      ·rintro _ ⟨L,rfl,dp,l2⟩;dsimp only;rw[fo (by simp;omega),Option.bind_some];refine U.bs (adW dp (by omega)) ?_;refine U.bs (aen (aeS _)) ?_;dsimp only;rw[fo (by simp;omega),Option.bind_some];exact U.ar.2 ⟨_,_,rfl,bS.add _,kk _ (aec _ _),by simp;omega⟩
     ·obtain⟨b,aa⟩:=aoA i j hi ao;refine U.bs aa ?_;dsimp only;cases b with
      |true=>
       rw[cond_true,fo (by simp;omega),Option.bind_some];obtain⟨v,hv,SM⟩:=MO (i:Int) j ao;refine U.bs SM ?_;dsimp only;rw[fo (by simp;omega),Option.bind_some];exact U.ar.2 ⟨_,_,rfl,bS.add _,kk _ hv,by simp;omega⟩
      |false=>
       rw[cond_false];exact U.ar.2 ⟨_,_,rfl,bS.skip,bt,by omega⟩
    ·rintro _ ⟨az,aK,rfl,aN,aM,bb⟩;exact U.ar.2 ⟨az,aK,rfl,aN,aM,bb⟩
   ·rintro _ ⟨az,aK,rfl,aN,aM,bb⟩;dsimp only;rw[c1 (a1 (show¬((n:Int)<(n:Int)) by omega))];exact U.ar.2 ⟨az,aK,rfl,aN,aM,bb⟩
  ·rintro _ ⟨az,aK,rfl,aN,aM,bb⟩;dsimp only;rw[fo (by rw[J.len];simp;omega),Option.bind_some];refine U.ar.2 ⟨_,_,_,rfl,aN.close,aM,by rw[Nat.add_mul,Nat.one_mul];omega⟩
 ·rintro _ ⟨st,az,aK,rfl,aN,aM,bb⟩;dsimp only;rw[c1 (a1 (show¬((n:Int)<(n:Int)) by omega))];exact U.ar.2 ⟨st,az,aK,rfl,aN,aM,bb⟩
theorem Wr {lS:List Int} (ai:lS.length<=9223372036854775807) {n:Nat} (ag:n<=5):U (Gg (lS,(n:Int),())) fun r=>r.1.length=n:=by
 unfold Gg;dsimp only;refine U.bJ (P:=fun r=>r.1.length=n) ?_ (by rintro⟨a,_⟩ h;exact U.ar.2 h);refine U.steps n (fun i s=>∃out,s=(out,(i:Int),())/\out.length=i) ⟨[],rfl,rfl⟩ ?_ ?_
 ·rintro i _ hi ⟨out,rfl,aJ⟩;dsimp only;rw[cT (a8 (show(i:Int)<(n:Int) by omega)),cO (by omega)];refine U.bJ (afD lS ai _) ?_;rintro⟨w,_⟩ hw;dsimp only at hw|-;rw[zt (by decide) (by decide),Option.bind_some];refine U.bs (Iu _ (n:=i+1) (by omega) (by omega)) ?_;have hr:=N6 (aQ (w/2^(1:Int).toNat)) (n:=i+1) (by omega);dsimp only;generalize y0 (aQ (w/2^(1:Int).toNat)) (i+1)=r at*;refine U.bs (OW (by omega)) ?_;dsimp only;rw[fo (by simp;omega),Option.bind_some,fo (by simp;omega),Option.bind_some];have ws:((jh (r:Int)).bind fun H1=>(some out.length).bind fun H2=>(jG H1 H2 out.length).map fun _=>(H1,H2))=some (r,out.length):=by
   have:jh (r:Int)=some r:=(by unfold jh;rw[if_pos (by omega),d7]);rw[this];show(jG r out.length out.length).map _=_;unfold jG;rw[if_pos ⟨by omega,bU _⟩];rfl
  refine U.bs ws ?_;dsimp only;rw[fo (by simp;omega),Option.bind_some];exact U.ar.2 ⟨_,rfl,by simp;omega⟩
 ·rintro _ ⟨out,rfl,aJ⟩;dsimp only;rw[c1 (a1 (show¬((n:Int)<(n:Int)) by omega))];exact U.ar.2 aJ
theorem awg {lS:List Int} (ai:lS.length<=9223372036854775807) (n pA:Int) (d:Bool):U (LG (lS,n,pA,d,())) fun r=>∃k,k<=5/\xD k k r.1/\r.2.1.length=k:=by
 unfold LG;refine U.bs (Iu n (n:=6) (by decide) (by decide)) ?_;have ae:=N6 n (n:=6) (by decide);dsimp only;generalize y0 n 6=k at*;cases d with
 |true=>
  rw[cond_true];refine U.bJ (afZ ai (n:=k) (by omega) pA) ?_;rintro⟨m,_⟩ ak;refine U.bJ (Wr ai (n:=k) (by omega)) ?_;rintro⟨o,_⟩ aJ;exact U.ar.2 ⟨k,by omega,ak,aJ⟩
 |false=>
  rw[cond_false];refine U.bJ (Wf ai (rows:=k) (cols:=k) (by omega) (by omega) pA) ?_;rintro⟨m,_⟩ ak;refine U.bJ (Wr ai (n:=k) (by omega)) ?_;rintro⟨o,_⟩ aJ;exact U.ar.2 ⟨k,by omega,ak,aJ⟩
def Kg (f:fU):Prop:=f.1.length<1000000/\f.2.1.length<1000000/\f.2.2.1.length<1000000/\f.2.2.2.1.length<1000000
theorem aez {f:fU} (h:Kg f):Gh (f,f,())=some (true,()):=by obtain⟨J,R,ac,aL⟩:=h;unfold Gh;refine aI (Fu _ _ (by omega)) ?_;dsimp only;rw[cT (by simp)];refine aI (Fu _ _ (by omega)) ?_;dsimp only;rw[cT (by simp)];refine aI (Fu _ _ (by omega)) ?_;dsimp only;rw[cT (by simp)];refine aI (Wb _ _ (by omega)) ?_;dsimp only;simp
theorem T1:Kg kE:=⟨by decide,by decide,by decide,by decide⟩
theorem arF {A:Nat->Nat->Option Int} {G:List (List Int)} {o:List Int} {n:Nat} (ag:n<=5) (nB:G.length=n) (aJ:o.length<=5):Kg (oy A G o n).1:=by
 unfold oy;split
 ·split
  ·exact T1
  ·exact T1
 ·have J:=NA G n;have R:=Pl A G n;have ac:n*G.length<=5*5:=l1 ag (by omega);refine⟨?_,?_,?_,?_⟩
  ·show o.length<1000000;omega
  ·show(bz (n+1) (fun k=>((nL G k).length:Int))).length<1000000;rw[dP];omega
  ·show(nL G n).length<1000000;omega
  ·show(zA A G n).length<1000000;omega
theorem Wl {rows cols:Nat} {st az aK:List Int} (hr:rows<=5) (ak:ja rows cols st az aK) {o:List Int} (aJ:o.length<=1000000):∃r:Ab,Kg r.1/\ue (((rows:Int),(cols:Int),st,az,aK,()),o,())=some r/\ya (((rows:Int),(cols:Int),st,az,aK,()),o,())=some r:=by
 by_cases h:tx rows cols st az aK o=0
 ·obtain⟨J,rfl,aw⟩:=ayK h;exact⟨_,arF hr (Ry aw) (by rw[aw.1];omega),Wm hr ak J aw,axd hr ak J aw⟩
 ·exact⟨_,T1,ajD ak aJ h,axc ak aJ h⟩
theorem afX (lS:List Int) (n pA:Int) (Yc:Bool) (other:List Int) (ai:lS.length<=9223372036854775807):QC (lS,n,pA,Yc,other,())=some (true,()):=by
 unfold QC;refine U.eq_iff.1 ?_;dsimp only;rw[cC];refine U.ite (fun _=>?_) (fun g=>?_)
 ·exact U.bs Xj (U.ar.2 rfl)
 have aJ:other.length<=6:=(by rw[bL] at g;omega);refine U.bJ (awg ai n pA Yc) ?_;rintro⟨m,o,_⟩ ⟨k,ae,ak,Ht⟩;dsimp only at ak Ht|-;obtain⟨st,az,aK,rfl,aN,aM,bb⟩:=ak.ex;have hs:=xD.small ae ae aN aM bb;obtain⟨⟨f,a,e,_⟩,f1,cE,g6⟩:=Wl ae hs (o:=o) (by omega);obtain⟨⟨g,b,d,_⟩,bS,bt,cY⟩:=Wl ae hs (o:=other) (by omega);refine U.bs cE (U.bs g6 (U.bs bt (U.bs cY ?_)));dsimp only at f1 bS|-;rw[cT (by simp),cT (by simp)];refine U.bs (aez f1) ?_;dsimp only;rw[cT (by simp),cT (by simp),cT (by simp)];refine U.bs (aez bS) ?_;dsimp only;rw[cT (by simp)];exact U.bs Xj (U.ar.2 rfl)
end Go.mz
end
