/-
  Parts of the proof: Pm118, Pm119, Pm120, Pm121, Pm122, Pm123, Pm124, Pm125, Pm126, Th7, Pm127, Pm128, Pm129, Pm130, Pm131, Pm132, Pm133, Pm109, Pm110, Pm134: the framework (Fw), pure forms (Dn), plain laws (Pl, Th), calls of functions (Ok).
-/
import Derived.KernelRfl
import Derived.Test.YtnndjinceoekdaaGreatDoorB89bfc7b8

set_option linter.all false
set_option maxHeartbeats 1000000
open _root_ renaming Nat->X,Int->Z,List->bm,congrArg->b6,rfl->bn,Option->bv,Unit->bt,cond_true->bG,if_neg->cc,cond_false->bP,if_pos->b8,decide_eq_decide->aj8,False->b4,Bool->bA,not_not_intro->akw
open List renaming range->bJ,length_append->akG,take_length->cB,length->cz,flatMap->ann,length_map->cg,getElem_mem->b3,getElem_idxOf->anp,ext_getElem->amo,mem_flatMap->amF,range_succ->akD,getElem_map->anr,replicate->bI,take_zero->alV,range'->ako,length_range'->aos,map_append->amA,append_assoc->ald,map_cons->amG,mem_cons_self->alY,mem_cons_of_mem->alx,mem_iff_getElem->ak0,getElem_inj->al0,getElem?_eq_some_iff->akU,length_filter_le->aky,length_take->akv,flatMap_cons->apP,getElem?_eq_getElem->bX,not_mem_nil->anq,nil_append->aod
open Option renaming some->Y,bind_some->bK,bind->bB,map_some->alX
open Go.jy.aP renaming eL->akk
open List.Pairwise renaming imp->ap4,nil->amb
open Bool renaming true->bq,false->bp
open Go.jy.ae renaming eq_iff->bO,aJ->bE,af->bu,steps->bQ,bs->bz,loop->akn
open Decidable renaming decide->br
open Int renaming add_zero->amq,mul_eq_zero->amr,natCast_mul->ama,mul_le_mul_of_nonneg_left->amw,gcd->amH,natCast_emod->aog,toNat_natCast->akE,mul_zero->alT,mul_nonneg->alS,lt_or_le->ak1,natAbs_neg->alW,neg_mul_neg->apK,mul_comm->akF,mul_ne_zero->amE,mul_assoc->amx,one_mul->alU,natAbs_of_nonneg->apQ,le_of_lt->akj
open Go.jy.cC renaming kv->akL
open Nat renaming add_sub_cancel->aoc,lt_succ_self->akQ,le_antisymm->an8,gcd_comm->apJ,le_trans->cw,add_zero->apO,mul_le_mul_left->am6,le_refl->cd
open Rat renaming mul_pos->al2,intCast_inj->aot,intCast_neg->apL,intCast_sub->apM,intCast_pos->amI,intCast_lt_intCast->apN,intCast_mul->aou
open Iff renaming rfl->al4
noncomputable section
namespace Go.jy
variable{a b i:X}{c:X->X->Rat}{d:aj5}{e:Z}{f:aj6}{g k l:Rat}{h:X->X->Z}{j m:bm (Rat×(X->Rat))}
section
def cQ (ps:bm aP) (a:X):X:=((ps.take a).flatMap aP.aY).length
def gQ (ps:bm aP) (a:X):X:=((ps.take a).flatMap aP.d).length
structure hp (n:X) (ps:bm aP):Prop where
 perm:(ps.flatMap aP.aY).Perm (bJ n)
 dd:∀q∈ps,wY (bJ n) q
 k:∀q∈ps,uH q
 EW:pS [] ps
theorem nA {c:Type} {b:bm c} (d:a<b.length):b.take (a+1)=b.take a++[b[a]]:=by simp_all
theorem IG {d f:Type} (c:d->bm f) {b:bm d} (e:a<b.length):((b.flatMap c).take ((b.take (a+1)).flatMap c).length).drop ((b.take a).flatMap c).length=c b[a]:=by
 have g:b.flatMap c=((b.take a).flatMap c++c b[a])++(b.drop (a+1)).flatMap c:=by
  conv=>lhs;rw[<-jU (a+1) b,nE,nA e,nE]
  simp
 grind [List.take_left,List.drop_left,nA]
theorem vz {d f:Type} (b:d->bm f) {c:bm d} {j:X} (e:a<c.length) (h:j<(b c[a]).length):(c.flatMap b)[((c.take a).flatMap b).length+j]?=Y (b c[a])[j]:=by have g:=IG b e;grind
theorem pS.at {ps:bm aP} (c:pS d ps):∀{b:X} (f:b<ps.length),∀a∈ps[b].rows,a∉d++(ps.take b).flatMap aP.aY/\a∉ps[b].aY:=by
 induction ps generalizing d with
 |nil=>grind
 |cons h ps g=>
  intro b f a e;cases b with
  |zero=>simpa using c.1 a e
  |succ b=>
   have:=g c.2 (b:=b) (by grind) a e;grind
section
variable {n:X} {ps:bm aP}
theorem rU (b:a<ps.length):cQ ps (a+1)=cQ ps a+ps[a].aY.length:=by grind [nA,akG,cQ]
theorem HV (b:a<ps.length):gQ ps (a+1)=gQ ps a+ps[a].d.length:=by grind [nA,akG,gQ]
theorem Fc:cQ ps ps.length=(ps.flatMap aP.aY).length:=by grind [cB,cQ]
theorem HU:gQ ps ps.length=(ps.flatMap aP.d).length:=by grind [cB,gQ]
theorem hp.len (a:hp n ps):(ps.flatMap aP.aY).length=n:=by rw[a.perm.length_eq,o6]
def hp.hl (b:hp n ps) (c:a<ps.length):(ps[a].aY.length=1\/ps[a].aY.length=2)/\ps[a].d.length=2*ps[a].aY.length-1/\ps[a].l.length=ps[a].aY.length:=
 have:=b.dd _ (cF c)
 ⟨this.at1,this.dl,this.len⟩
theorem hp.Jj (a:hp n ps):∀{b:X},b<=ps.length->cQ ps b<=n/\b<=cQ ps b/\gQ ps b+b=2*cQ ps b:=by
 intro b e;refine⟨?_,?_⟩
 ·have c:=b6 cz (b6 (ann aP.aY) (jU b ps));rw[nE,h5,a.len] at c;grind [cQ]
 induction b with
 |zero=>exact⟨bd _,bn⟩
 |succ b d=>
  obtain⟨i1,f⟩:=d aa;obtain⟨g,h,_⟩:=a.hl (aa:b<ps.length);grind [rU,HV]
def hp.x5 (b:hp n ps) (c:a<ps.length):cQ ps a+ps[a].aY.length<=n:=by rw[<-rU c];exact(b.Jj aa).1
def hp.Nd (b:hp n ps):∀{a:X},a<=ps.length->((ps.take a).flatMap akk).length=cQ ps a:=by
 intro a d
 induction a with
 |zero=>rfl
 |succ a c=>
  rw[nA aa,nE,h5,c aa,rU aa,<-(b.hl (aa:a<ps.length)).2.2];simp[akk]
def hp.call (a:hp n ps):(ps.flatMap akk).length=n:=by have:=a.Nd (bd ps.length);rw[hM,Fc,a.len] at this;omega
theorem hp.uY (c:hp n ps) (d:a<ps.length) (g:b<ps[a].aY.length):∃e∈ps[a].l,(ps.flatMap akk)[cQ ps a+b]?=Y (ps[a].rows,e):=by have h:=(c.hl d).2.2;have f:=vz akk d (j:=b) (by grind [cg,akk]);rw[c.Nd aa] at f;grind [b3,akk]
theorem hp.after (c:hp n ps) (d:a<ps.length) (e:b∈ps[a].rows):cQ ps a+ps[a].aY.length<=(ps.flatMap aP.aY).idxOf b/\(ps.flatMap aP.aY).idxOf b<n:=by have g:=(c.dd _ (cF d)).sub b e;have i:=c.perm.mem_iff.2 g;obtain⟨f,f2⟩:=c.EW.at d b e;rw[ho] at f;refine⟨?_,by rw[<-c.len];grind⟩;rw[<-rU d];have h:ps.flatMap aP.aY=(ps.take (a+1)).flatMap aP.aY++(ps.drop (a+1)).flatMap aP.aY:=(by rw[<-nE,jU]);have j:b∉(ps.take (a+1)).flatMap aP.aY:=(by grind [nA]);simp_all [List.idxOf_append,au,cQ]
theorem hp.inj (c:hp n ps) (e:a<n) (f:b<n) (h:(ps.flatMap aP.aY).idxOf a=(ps.flatMap aP.aY).idxOf b):a=b:=by have d:=c.perm.mem_iff.2 (gD.2 e);have g:=c.perm.mem_iff.2 (gD.2 f);have ao:=anp (Cj.2 d);grind
theorem hp.iA (d:hp n ps) (i:a<ps.length) (c:X->Z):(gr (λg=>(ps.flatMap aP.aY).idxOf g) (ps[a].rows,c)).Pairwise (λb h=>b<h)/\∀b∈gr (λg=>(ps.flatMap aP.aY).idxOf g) (ps[a].rows,c),((cQ ps a+ps[a].aY.length:X):Z)<=b/\b<(n:Z):=by
 have e:=d.dd _ (cF i);constructor
 ·unfold gr;rw[ou];refine ap4 (R:=λc a=>(ps.flatMap aP.aY).idxOf c<(ps.flatMap aP.aY).idxOf a) (λ{c a} d=>Int.ofNat_lt.2 d) (K4 amb (λc k=>by cases k) ?_);refine sw ?_ e.nd;intro b h f o m j;exact m (d.inj (gD.1 (e.sub b f)) (gD.1 (e.sub h o)) j)
 intro b f;obtain⟨r,l,rfl⟩:=eQ.1 f;obtain⟨p,q⟩:=d.after i ((BU _ _).mem_iff.1 l);grind
end
theorem VQ (c:it->aj6) {b:bm it} (d:a<=b.length):(lH c b).getD a 0=(((b.take a).flatMap c).length:Z):=by grind [List.getElem?_range,lH]
theorem MY (b:it->aj6) (a:bm it):(lH b a).length=a.length+1:=by grind [lH]
theorem HG (c:it->aj6) {b:bm it} (d:a<b.length):((b.take (a+1)).flatMap c).length=((b.take a).flatMap c).length+(c b[a]).length:=by grind [nA,akG]
theorem MX (a:it->aj6) {cs:bm it} (b:X):((cs.take b).flatMap a).length<=(cs.flatMap a).length:=by have c:=b6 cz (b6 (ann a) (jU b cs));grind
theorem ad1 {st:aj6} {n m:X} (o:n<=1000000) (e:st.length=n+1) (f:st.getD 0 0=0) (g:st.getD n 0=(m:Z)) (h:∀b,b<n->st.getD b 0<=st.getD (b+1) 0):Es (st,(n:Z),(m:Z),())=Y (bq,()):=by
 unfold Es;refine bO.1 ?_;dsimp only;have d:ar st 0=Y 0:=(gu (l:=st) (i:=0) aa).trans (by rw[f]);refine bE (P:=λc=>c=.inl ()) ?_ ?_
 ·rw[a7,bc aa,e,aZ ac,d,aE,aZ (by rfl),gu aa,g,aE,aW ac];grind [bu]
 rintro _ rfl;dsimp only;refine bE (P:=λc=>c=.inl ()) ?_ (by grind [bu]);refine bQ n (λa k=>k=((a:Z),())) rfl ?_ ?_
 ·rintro a _ j rfl;have:=h a j;dsimp only;rw[aZ (aF (aa:(a:Z)<(n:Z))),bc aa,gu aa,bK,gu aa,bK,aW (aA aa)];grind [bu]
 rintro _ rfl;dsimp only;rw[aW (aA (aa:¬((n:Z)<(n:Z))))];grind [bu]
end
section
def fV.of {o:aj6} {n:X} (a:f.Perm o) (b:fV o n):fV f n:=
 ⟨a.length_eq.trans b.1,λd c=>b.2.1 d (a.mem_iff.1 c),a.nodup_iff.2 b.2.2⟩
section
variable {n:X} {ps:bm aP} {o:aj6}
def hp.order (d:hp n ps) (b:fV o n):fV ((ps.flatMap aP.aY).map λa=>o.getD a 0) n:=by refine b.of ((d.perm.map _).trans ?_);have c:(bJ n).map (λa=>o.getD a 0)=o:=amo (by rw[eP,o6,b.1]) λg f e=>(by rw[m6,List.getElem_range,j1 e]);rw[c]
structure hE (n:X) (ps:bm aP) (F:fI):Prop where
 ok:hp n ps
 or:fV F.1 n
 q1:F.2.1.length=ps.length
 hl:∀b (E4:b<ps.length),ar F.2.1 (b:Z)=Y (ps[b].aY.length:Z)
 rJ:F.2.2.1=ps.flatMap aP.d
 yR:F.2.2.2.1.length=n+1
 st:∀j,j<=n->ar F.2.2.2.1 (j:Z)=Y ((((ps.flatMap akk).take j).flatMap (gr λp=>(ps.flatMap aP.aY).idxOf p)).length:Z)
 iA:F.2.2.2.2.1=(ps.flatMap akk).flatMap (gr λp=>(ps.flatMap aP.aY).idxOf p)
 nB:F.2.2.2.2.2.1=(ps.flatMap akk).flatMap (jX λp=>(ps.flatMap aP.aY).idxOf p)
 del:0<=F.2.2.2.2.2.2.1
 pD:n<=12
def hp.Oi (a:hp n ps) (e:n<=12) (f:fV o n) (del:X):hE n ps (pq o ps (del:Z)):=by
 refine⟨a,a.order f,?_,λb c=>?_,bn,?_,λg d=>?_,bn,bn,Int.ofNat_nonneg _,e⟩
 ·show(ps.map _).length=_;rw[eP]
 ·show ar (ps.map λh=>(h.aY.length:Z)) (b:Z)=_;rw[eR (by rw[eP];exact c),m6]
 ·show(lH _ _).length=_;rw[MY,a.call]
 show ar (lH _ _) (g:Z)=_;rw[gu (by rw[MY,a.call];omega),VQ _ (by rw[a.call];exact d)]
variable {F:fI}
def hE.small (b:hE n ps F):F.1.length=n/\F.2.2.2.2.1.length<=144/\F.2.2.2.2.2.1.length=F.2.2.2.2.1.length/\ps.length<=n/\F.2.2.1.length<=2*n:=by
 have f:=b.ok.call;have p:∀a∈ps.flatMap akk,a.1.length<=12:=λa f=>(by obtain⟨k,m,f⟩:=amF.1 f;obtain⟨t,_,rfl⟩:=eQ.1 f;have:=(b.ok.dd k m).nd.length_le_of_subset (b.ok.dd k m).sub;rw[o6] at this;have:=b.pD;show k.rows.length<=12;omega);have q:∀{cs:bm it} {d:Type} (c:it->bm d),(∀a∈cs,(c a).length=a.1.length)->(∀a∈cs,a.1.length<=12)->(cs.flatMap c).length<=12*cs.length:=by
  intro cs d c e l
  induction cs with
  |nil=>exact bd _
  |cons a cs i=>
   have:=i (λg h=>e g (gC _ h)) (λg h=>l g (gC _ h));have:=e a ac;have:=l a ac;rw[ot,h5,iv];omega
 have r:∀{cs:bm it} {d o:Type} (c:it->bm d) (j:it->bm o),(∀a,(c a).length=(j a).length)->(cs.flatMap c).length=(cs.flatMap j).length:=by
  intro cs d o c j e
  induction cs with
  |nil=>rfl
  |cons a cs i=>rw[ot,ot,h5,h5,e,i]
 have v:=q (cs:=ps.flatMap akk) (gr λs=>(ps.flatMap aP.aY).idxOf s) (λa _=>by unfold gr;rw[eP,Gm]) p;have w:=b.ok.Jj (bd ps.length);have u:=b.pD;refine⟨b.or.1,by rw[b.iA];omega,?_,aa,?_⟩
 ·rw[b.nB,b.iA];exact r _ _ λa=>by unfold gr jX;rw[eP,eP]
 rw[b.rJ,<-HU];omega
structure TV (F:fI) (k n lo:X) (L:aj6):Prop where
 len:lo+L.length<=F.2.2.2.2.1.length
 get:∀t (px:t<L.length),ar F.2.2.2.2.1 ((lo+t:X):Z)=Y L[t]
 aff:(F.2.2.2.2.1.take (lo+L.length)).drop lo=L
 asc:∀t (px:t+1<L.length),L[t]<L[t+1]
 rng:∀t (px:t<L.length),(k:Z)<=L[t]/\L[t]<(n:Z)
def hE.uY (c:hE n ps F) {b f:X} (g:b<ps.length) (r:f<ps[b].aY.length):∃l m,TV F (cQ ps b+ps[b].aY.length) n l m/\ar F.2.2.2.1 ((cQ ps b+f:X):Z)=Y (l:Z)/\ar F.2.2.2.1 ((cQ ps b+f+1:X):Z)=Y ((l+m.length:X):Z):=by obtain⟨o,_,h⟩:=c.ok.uY g r;obtain⟨i,h⟩:=hT.1 h;have u:=c.ok.x5 g;have q:=IG (gr λa=>(ps.flatMap aP.aY).idxOf a) i;have k:=HG (gr λa=>(ps.flatMap aP.aY).idxOf a) i;have v:=MX (gr λa=>(ps.flatMap aP.aY).idxOf a) (cs:=ps.flatMap akk) (cQ ps b+f+1);obtain⟨s,t⟩:=c.ok.iA g o;have p:=λe d=>vz (gr λa=>(ps.flatMap aP.aY).idxOf a) i (j:=e) d;rw[h] at q k p;refine⟨_,gr (λa=>(ps.flatMap aP.aY).idxOf a) (ps[b].rows,o),⟨by rw[c.iA];omega,λe d=>?_,by rw[c.iA,<-k];exact q,λe d=>ik.1 s _ _ aa d aa,λe d=>t _ (cF _)⟩,c.st _ aa,by rw[c.st _ aa,k]⟩;rw[c.iA];exact gg (p e d)
def aeR (a:hE n ps F):Ev (F,())=Y (bq,()):=by
 obtain⟨l,N,O,Q,R⟩:=a.small;have H:=a.pD;unfold Ev;refine bO.1 ?_;dsimp only;refine bE (P:=λq=>q=.inl ()) ?_ ?_
 ·have E:=ad1 (st:=F.2.2.2.1) (n:=n) (m:=F.2.2.2.2.1.length) aa a.yR (by
   have:=a.st 0 aa;rw[gu (by rw[a.yR];omega)] at this;exact gq this) (by
   have:=a.st n aa;rw[gu (by rw[a.yR];omega)] at this;rw[gq this,a.iA,<-a.ok.call,hM]) (λt C=>by
   have ao:=a.st t aa;have j:=a.st (t+1) aa;rw[gu (by rw[a.yR];omega)] at ao j;rw[gq ao,gq j,HG _ (by rw[a.ok.call];exact C)];omega)
  have:=a.del;rw[aZ (by rw[aA aa];rfl),a7,l,a7];refine bz E ?_;dsimp only;rw[aW (by rfl)];exact bu.2 bn
 rintro _ rfl;dsimp only;refine bE (P:=λq=>q=.inl ((n:Z),(F.2.2.1.length:Z),())) ?_ ?_
 ·refine bQ ps.length (λb h=>h=((cQ ps b:Z),(gQ ps b:Z),(b:Z),())) rfl ?_ ?_
  ·rintro b _ f rfl;obtain⟨S,T,_⟩:=a.ok.hl f;have J:=a.ok.x5 f;have K:=a.ok.Jj (b:=b) aa;have r:=a.hl b f;have D:(ps[b].aY.length:Z)=1\/(ps[b].aY.length:Z)=2:=aa;dsimp only;rw[a7,a.q1,aZ (aF (aa:(b:Z)<(ps.length:Z))),bc aa];refine bz (y:=.inl (((cQ ps (b+1):X):Z),((gQ ps (b+1):X):Z),())) ?_ (bu.2 bn);refine ai (y:=.inl ()) ?_ ?_
   ·have k:(bif br (ax ((cQ ps b:Z)+(ps[b].aY.length:Z))>al F.1) then(Y (.inr (.inr (.inr (.inr (bp,()))))):bv (bt⊕(km⊕w7))) else Y (.inl ()))=Y (.inl ()):=by
     rw[a7,l,bh aa aa,aW (aA aa)]
    rw[r];simp only[aE];rcases D with o|o
    ·rw[o] at k|-;rw[aW (by rfl)];exact k
    rw[o] at k|-;rw[aZ (by rfl),aZ (by rfl)];exact k
   dsimp only;rw[r];simp only[bK];have u:ax (ax ((cQ ps b:Z)+(ps[b].aY.length:Z))-1)=((cQ ps b+ps[b].aY.length-1:X):Z):=(by rw[bh (x:=(cQ ps b:Z)+(ps[b].aY.length:Z)) aa aa,bh aa aa];omega);rw[u];refine ai (y:=.inl ()) ?_ ?_
   ·refine bO.1 ?_;refine bQ ps[b].aY.length (λp h=>h=(((cQ ps b+p:X):Z),())) rfl ?_ ?_
    ·rintro p _ B rfl;obtain⟨e,i,g,v,w⟩:=a.uY f B;have I:=g.len;dsimp only;rw[aZ (aF (aa:((cQ ps b+p:X):Z)<=((cQ ps b+ps[b].aY.length-1:X):Z))),bc aa,v,w];simp only[bK];refine bz (y:=.inl ()) ?_ (bu.2 bn);refine bO.1 ?_;refine bQ i.length (λc h=>h=(((e+c:X):Z),())) rfl ?_ ?_
     ·rintro c _ s rfl;obtain⟨L,M⟩:=g.rng c s;dsimp only;rw[aZ (aF (aa:((e+c:X):Z)<((e+i.length:X):Z))),bc aa];refine bz (y:=.inl ()) ?_ (bu.2 bn);rw[g.get c s];simp only[bK];rw[aZ (by rw[aA aa];rfl),a7,l,aZ (by rw[aA aa];rfl)];by_cases G:c=0
      ·rw[aW (by rw[aA aa];rfl)]
      have z:=g.asc (c-1) aa;have A:=g.get (c-1) aa;rw[aZ (by rw[aF aa];rfl),show ax (((e+c:X):Z)-1)=((e+(c-1):X):Z) by rw[bh aa aa];omega,A];simp only[aE];simp only[(aa:c-1+1=c)] at z;rw[aW (aA aa)]
     rintro _ rfl;dsimp only;rw[aW (aA (aa:¬((e+i.length:X):Z)<((e+i.length:X):Z)))];exact bu.2 bn
    rintro _ rfl;dsimp only;rw[aW (aA (aa:¬((cQ ps b+ps[b].aY.length:X):Z)<=((cQ ps b+ps[b].aY.length-1:X):Z)))];exact bu.2 bn
   dsimp only;rw[rU f,HV f,bc aa];refine b6 Y (b6 Sum.inl ?_);have j:ax (ax ((gQ ps b:Z)+ax (2*(ps[b].aY.length:Z)))-1)=((gQ ps b+ps[b].d.length:X):Z):=(by rw[bh (x:=2*(ps[b].aY.length:Z)) aa aa,bh (x:=(gQ ps b:Z)+2*(ps[b].aY.length:Z)) aa aa,bh aa aa];omega);rw[j,(aa:cQ ps b+ps[b].aY.length-1+1=cQ ps b+ps[b].aY.length)]
  rintro _ rfl;dsimp only;rw[a7,a.q1,aW (aA (aa:¬((ps.length:Z)<(ps.length:Z)))),Fc,HU,a.ok.len,<-a.rJ];exact bu.2 bn
 rintro _ rfl;dsimp only;rw[a7,a7,l,aZ ac];exact bu.2 ac
end
end
section
def j7 (a:aP):Z×Z×Z:=
 if a.aY.length=2/\h1 (ja a.d)<0 then(1,0,1) else if h1 (aX (a.d.getD 0 0))<0 then(a.aY.length,0,0) else if h1 (aX (a.d.getD 0 0))>0 then(0,0,a.aY.length) else(0,1,0)
def fH (b:bm aP):Z×Z×Z:=((b.map λa=>(j7 a).1).sum,(b.map λa=>(j7 a).2.1).sum,(b.map λa=>(j7 a).2.2).sum)
def SE {b:bm aP} (c:a<b.length):fH (b.take (a+1))=((fH (b.take a)).1+(j7 b[a]).1,(fH (b.take a)).2.1+(j7 b[a]).2.1,(fH (b.take a)).2.2+(j7 b[a]).2.2):=by unfold fH;rw[nA c];simp only[jR,List.sum_append,gW,sD,List.sum_cons,List.sum_nil,amq]
section
variable {n:X} {ps:bm aP} {F:fI}
def ae8 {a:aP} (b:a.aY.length=1\/a.aY.length=2):0<=(j7 a).1/\(j7 a).1<=2/\0<=(j7 a).2.1/\(j7 a).2.1<=2/\0<=(j7 a).2.2/\(j7 a).2.2<=2:=by
 unfold j7;split
 ·decide
 split
 ·dsimp only;omega
 split
 ·dsimp only;omega
 decide
def hE.ae9 (b:hE n ps F):∀{a:X},a<=ps.length->0<=(fH (ps.take a)).1/\(fH (ps.take a)).1<=2*a/\0<=(fH (ps.take a)).2.1/\(fH (ps.take a)).2.1<=2*a/\0<=(fH (ps.take a)).2.2/\(fH (ps.take a)).2.2<=2*a:=by
 intro a d
 induction a with
 |zero=>simp[fH]
 |succ a c=>
  have:=c aa;have:=ae8 (b.ok.hl (aa:a<ps.length)).1;rw[SE aa];dsimp only;omega
def hE.diag (b:hE n ps F) (c:a<ps.length):(F.2.2.1.take (gQ ps (a+1))).drop (gQ ps a)=ps[a].d/\gQ ps (a+1)<=F.2.2.1.length/\gQ ps (a+1)=gQ ps a+ps[a].d.length/\ar F.2.2.1 (gQ ps a:Z)=Y (ps[a].d.getD 0 0):=by
 obtain⟨i,k,_⟩:=b.ok.hl c;have h:=IG aP.d c;have f:=vz aP.d c (j:=0) aa;have g:=HV c;refine⟨by rw[b.rJ];exact h,?_,g,?_⟩
 ·have e:=b6 cz (b6 (ann aP.d) (jU (a+1) ps));rw[nE,h5] at e;rw[b.rJ];unfold gQ;omega
 rw[b.rJ,j1 aa];exact gg f
theorem Lj {l:aj6} (d:l.length=3):∃a b c,l=[a,b,c]:=by
 match l,d with
 |[a,b,c],_=>exact⟨a,b,c,bn⟩
def hE.TC (c:hE n ps F):(∀b∈F.2.2.2.2.2.1,e3 b/\cE b≠2047)/\∀b∈F.2.2.1,e3 b/\cE b≠2047:=by
 constructor
 ·intro b a;rw[c.nB] at a;obtain⟨l,f,a⟩:=amF.1 a;obtain⟨e,d,f⟩:=amF.1 f;obtain⟨g,h,rfl⟩:=eQ.1 f;obtain⟨i,j,rfl⟩:=eQ.1 a;exact⟨(c.ok.k e d).Pe g h i,(c.ok.dd e d).fin g h i ((BU _ _).mem_iff.1 j)⟩
 intro b a;rw[c.rJ] at a;obtain⟨e,d,a⟩:=amF.1 a;exact⟨(c.ok.k e d).CT b a,(c.ok.k e d).EA b a⟩
def uH.two {a:aP} (p:uH a) (B:a.aY.length=2) (J:a.d.length=2*a.aY.length-1):AG (a.d,())=Y (aB (ja a.d),())/\cW (ja a.d)/\h1 (ja a.d)≠0/\(¬h1 (ja a.d)<0->h1 (aX (a.d.getD 0 0))≠0):=by
 obtain⟨g,b,k,o⟩:=Lj (l:=a.d) aa;have m:=p.CT;have n:=p.EA;have h:=p.kN B;rw[o] at m n h|-;have z:=n g ac;have u:=n b ac;have A:=n k ac;obtain⟨j,e⟩:∃j:X,j=65536:=⟨_,bn⟩;obtain⟨F,x,M,q,ao,I,r,s⟩:=cC.mul e (akL e z) (akL e A) ab ab ab;obtain⟨G,H,N,f,y,f2,t,f4⟩:=cC.mul e (akL e u) (akL e u) ab ab ab;have v:ja [g,b,k]=Y (q+-f):=(by have:=(cC.add e ab F G.neg ab).2;rw[r,t] at this;show cR (cJ (aX g) (aX k)) (dc (cJ (aX b) (aX b)))=_;rw[r,t];exact this);refine⟨adT (m g ac) (m b ac) (m k ac),qk _ _,?_,λw c=>?_⟩
 ·rw[v] at h|-;intro i;refine h (b6 Y ?_);have i:fv (q+-f)=0:=i;unfold fv at i;split at i
  ·omega
  split at i<;>omega
 have c:h1 (aX g)=0:=c;rw[ao] at c;have D:x=0:=by
  have c:fv x=0:=c;unfold fv at c;split at c
  ·omega
  split at c<;>omega
 rw[D,om] at s;have C:(0:Z)<2^j:=lz ab;have E:q=0:=(amr.1 s).resolve_right aa;rw[y] at f2;cases f2;have L:0<=f:=(by have:0<=f*2^j:=(by rw[f4,<-Int.natAbs_mul_self' H];exact lx aa aa);exact Int.nonneg_of_mul_nonneg_left this C);rw[v,E] at w h;have K:f≠0:=λo=>h (by rw[o];rfl);refine w ?_;show fv (0+-f)<0;unfold fv;split
 ·omega
 split<;>omega
end
end
section
section
variable {n:X} {ps:bm aP} {F:fI}
def Z8 (a:-100000<=e) (b:e<=100000):aM e=e+1:=bh (x:=e+1) aa aa
def hE.at (b:hE n ps F) (c:a<ps.length):ax (ax ((gQ ps a:Z)+ax (2*(ps[a].aY.length:Z)))-1)=(gQ ps (a+1):Z)/\(ps[a].aY.length=2->ax ((gQ ps a:Z)+3)=(gQ ps (a+1):Z)):=by
 obtain⟨h,i,_⟩:=b.ok.hl c;obtain⟨_,d,e,_⟩:=b.diag c;have:=b.small.2.2.2.2;have g:=b.pD;refine⟨?_,λf=>?_⟩
 ·rw[bh (x:=2*(ps[a].aY.length:Z)) aa aa,bh (x:=(gQ ps a:Z)+2*(ps[a].aY.length:Z)) aa aa,bh aa aa];omega
 rw[bh aa aa];omega
def RJ (a:hE n ps F):AF (F,())=Y (0,()):=by
 obtain⟨q,z,r,A,B⟩:=a.small;obtain⟨v1,fe⟩:=a.TC;have x:=a.pD
 classical
 unfold AF;refine bO.1 ?_;dsimp only;refine bz (y:=.inl ()) ?_ ?_
 ·rw[a7,q,aW (aA (aa:¬((n:Z)>200)))];refine ai (adZ aa aa) ?_;dsimp only;rw[aF a.or,aW (by rfl)];refine ai (y:=(bp,())) ?_ ?_
  ·rw[a7,a.yR,bc aa,aZ ac,a7,a7,r];simp
  dsimp only;rw[aW (by rfl)];refine ai (aeR a) ?_;dsimp only;rw[aW (by rfl)]
 dsimp only;refine bE (P:=λf=>f=.inl ()) ?_ ?_
 ·refine bQ F.2.2.2.2.2.1.length (λc g=>g=((c:Z),())) rfl ?_ ?_
  ·rintro c _ e rfl;dsimp only;rw[a7,aZ (aF (aa:(c:Z)<(F.2.2.2.2.2.1.length:Z))),bc aa];refine bz (eR e) ?_;obtain⟨h,i⟩:=v1 _ (b3 e);refine bz (BE h) ?_;dsimp only;rw[aA i,aW (by rfl)];exact bu.2 bn
  rintro _ rfl;dsimp only;rw[a7,aW (aA (aa:¬((F.2.2.2.2.2.1.length:Z)<(F.2.2.2.2.2.1.length:Z))))];exact bu.2 bn
 rintro _ rfl;dsimp only;refine bE (P:=λf=>f=.inl ()) ?_ ?_
 ·refine bQ F.2.2.1.length (λc g=>g=((c:Z),())) rfl ?_ ?_
  ·rintro c _ e rfl;dsimp only;rw[a7,aZ (aF (aa:(c:Z)<(F.2.2.1.length:Z))),bc aa];refine bz (eR e) ?_;obtain⟨h,i⟩:=fe _ (b3 e);refine bz (BE h) ?_;dsimp only;rw[aA i,aW (by rfl)];exact bu.2 bn
  rintro _ rfl;dsimp only;rw[a7,aW (aA (aa:¬((F.2.2.1.length:Z)<(F.2.2.1.length:Z))))];exact bu.2 bn
 rintro _ rfl;dsimp only;refine bE (P:=λf=>f=.inl ()) ?_ (by rintro _ rfl;exact bu.2 bn);refine bQ ps.length (λb g=>g=((gQ ps b:Z),(b:Z),())) rfl ?_ ?_
 ·rintro b _ d rfl;obtain⟨C,v,_⟩:=a.ok.hl d;obtain⟨o,p,w,_⟩:=a.diag d;obtain⟨l,m⟩:=a.at d;dsimp only;rw[a7,a.q1,aZ (aF (aa:(b:Z)<(ps.length:Z))),bc aa,a.hl b d];simp only[bK];refine bz (y:=.inl ((gQ ps (b+1):Z),())) ?_ (bu.2 bn);refine ai (y:=.inl ()) ?_ ?_
  ·rw[fY];by_cases j:ps[b].aY.length=2
   ·obtain⟨s,t,u,_⟩:=(a.ok.k _ (b3 d)).two j v;rw[aF (aa:((ps[b].aY.length:X):Z)=2),aZ (by rfl),m j];refine ai (SO aa p) ?_;dsimp only;rw[o];refine ai s (ai (KL t) ?_);dsimp only;rw[fY,aW (aA u)]
   rw[aA (aa:¬((ps[b].aY.length:X):Z)=2),aW (by rfl)]
  dsimp only;rw[l]
 rintro _ rfl;dsimp only;rw[a7,a.q1,aW (aA (aa:¬((ps.length:Z)<(ps.length:Z))))];exact bu.2 bn
end
end
section
def Y7 {n:X} (a:n<=200) (b:fV f n):H3 (f,())=Y (bq,()):=Yu a b
section
variable {n:X} {ps:bm aP} {F:fI}
def nk (ps:bm aP) (a:X):aj6:=(bJ a).map λb=>(cQ ps b:Z)
theorem Xs (ps:bm aP) (a:X):nk ps (a+1)=nk ps a++[(cQ ps a:Z)]:=by grind [akD,nk]
theorem EQ (ps:bm aP) (a:X):(nk ps a).length=a:=by grind [nk]
theorem Xr (c:a<b):ar (nk ps b) (a:Z)=Y (cQ ps a:Z):=by grind [eR,EQ,nk]
theorem adu (b:hE n ps F):Dv (F,())=Y (nk ps ps.length,bq,()):=by
 obtain⟨h,o,p,q,r⟩:=b.small;have k:=b.pD;unfold Dv;refine bO.1 ?_;dsimp only;refine bE (P:=λf=>f=.inl ((n:Z),(F.2.2.1.length:Z),nk ps ps.length,())) ?_ ?_
 ·refine bQ ps.length (λa g=>g=((cQ ps a:Z),(gQ ps a:Z),(a:Z),nk ps a,())) rfl ?_ ?_
  ·rintro a _ c rfl;obtain⟨s,t,_⟩:=b.ok.hl c;have m:=b.ok.x5 c;have e:(ps[a].aY.length:Z)=1\/(ps[a].aY.length:Z)=2:=aa;obtain⟨i,_⟩:=b.at c;have l:=b.diag c;dsimp only;rw[a7,b.q1,aZ (aF (aa:(a:Z)<(ps.length:Z))),bc aa,b.hl a c];simp only[bK];refine bz (y:=.inl ((cQ ps (a+1):Z),(gQ ps (a+1):Z),nk ps (a+1),())) ?_ (bu.2 bn);refine ai (y:=.inl (nk ps a,())) ?_ ?_
   ·refine ai (y:=(bp,nk ps a,())) ?_ ?_
    ·rw[a7,h,aA (aa:¬((cQ ps a:Z)>=(n:Z)))];rcases e with d|d
     ·grind
     simp_all
    grind
   dsimp only;rw[eS (by grind [EQ]),bK,Xs,rU c,bh (x:=(cQ ps a:Z)+(ps[a].aY.length:Z)) aa aa];have j:ax ((gQ ps a:Z)+ax (ax (2*(ps[a].aY.length:Z))-1))=(gQ ps (a+1):Z):=(by rw[bh (x:=2*(ps[a].aY.length:Z)) aa aa,bh (x:=2*(ps[a].aY.length:Z)-1) aa aa,bh aa aa];omega);grind
  rintro _ rfl;dsimp only;rw[a7,b.q1,aW (aA (aa:¬((ps.length:Z)<(ps.length:Z)))),Fc,HU,b.ok.len,<-b.rJ];grind [bu]
 rintro _ rfl;simp_all [bu,a7,aZ]
theorem Wc (c:hE n ps F):Dn (F,nk ps ps.length,())=Y (bq,()):=by
 obtain⟨s,A,B,C,D⟩:=c.small;have t:=c.pD;unfold Dn;refine bO.1 ?_;dsimp only;have k:=c.st 0 aa;have m:=c.st n aa;refine bz (y:=.inl ()) ?_ ?_
 ·refine ai (y:=(0:Z)) (k.trans ac) ?_;rw[aZ (by rfl),a7,s,m];simp only[aE];rw[a7,c.iA,<-c.ok.call,hM,aW ac]
 dsimp only;refine bE (P:=λi=>i=.inl ()) ?_ (by grind [bu]);refine bQ ps.length (λa f=>f=((a:Z),())) rfl ?_ ?_
 ·rintro a _ e rfl;obtain⟨E,G,_⟩:=c.ok.hl e;have u:=c.ok.x5 e;dsimp only;rw[a7,EQ,aZ (aF (aa:(a:Z)<(ps.length:Z))),bc aa,Xr e,c.hl a e];simp only[bK];have l:ax (ax ((cQ ps a:Z)+(ps[a].aY.length:Z))-1)=((cQ ps a+ps[a].aY.length-1:X):Z):=by
   grind [bh]
  rw[l];refine bE (P:=λi=>i=.inl ()) ?_ (by grind [bu]);refine bQ ps[a].aY.length (λh f=>f=(((cQ ps a+h:X):Z),())) rfl ?_ ?_
  ·rintro h _ r rfl;obtain⟨w,d,g,o,p⟩:=c.uY e r;have q:=g.len;dsimp only;rw[aZ (aF (aa:((cQ ps a+h:X):Z)<=((cQ ps a+ps[a].aY.length-1:X):Z))),bc aa,o,p];simp only[bK];refine bz (y:=.inl ()) ?_ (bu.2 bn);refine ai (y:=.inl ()) ?_ ?_
   ·rw[aZ (by grind),a7,aW (aA aa)]
   dsimp only;refine ai (SO aa q) ?_;dsimp only;rw[g.aff];refine ai (y:=.inl ()) ?_ bn;refine bO.1 ?_;refine bQ d.length (λb f=>f=((if b=0 then((cQ ps a+ps[a].aY.length-1:X):Z) else d.getD (b-1) 0),(b:Z),())) rfl ?_ ?_
   ·rintro b _ j rfl;obtain⟨x,z⟩:=g.rng b j;dsimp only;rw[a7,aZ (aF (aa:(b:Z)<(d.length:Z))),bc aa,eR j];simp only[bK];refine bz (y:=.inl (d[b],())) ?_ ?_
    ·refine ai (y:=.inl ()) ?_ bn;have v:(if b=0 then((cQ ps a+ps[a].aY.length-1:X):Z) else d.getD (b-1) 0)<d[b]:=by
      split
      ·omega
      have:=g.asc (b-1) aa;grind
     grind
    simp_all [bu,au,Nat.succ_ne_zero,aoc,j1]
   rintro _ rfl;dsimp only;rw[a7,aW (aA (aa:¬((d.length:Z)<(d.length:Z))))];grind [bu]
  rintro _ rfl;dsimp only;rw[aW (aA (aa:¬((cQ ps a+ps[a].aY.length:X):Z)<=((cQ ps a+ps[a].aY.length-1:X):Z)))];grind [bu]
 rintro _ rfl;dsimp only;rw[a7,EQ,aW (aA (aa:¬((ps.length:Z)<(ps.length:Z))))];grind [bu]
def kr (b:aP):bm gB:=b.d.map λa=>aB (aX a)
theorem NJ (b:hE n ps F):z5 (F,())=Y (ps.map kr,()):=by
 obtain⟨u,v,w,z,A⟩:=b.small;have t:=b.pD;unfold z5;refine bO.1 ?_;dsimp only;refine bE (P:=λf=>f=(ps.map kr,())) ?_ (by grind [bu]);refine bQ ps.length (λa g=>g=((gQ ps a:Z),(a:Z),(ps.take a).map kr,())) rfl ?_ ?_
 ·rintro a _ e rfl;obtain⟨B,C,_⟩:=b.ok.hl e;obtain⟨q,r,l,s⟩:=b.diag e;have o:=(b.ok.k _ (b3 e)).CT;dsimp only;rw[a7,b.q1,aZ (aF (aa:(a:Z)<(ps.length:Z))),bc aa,b.hl a e];simp only[bK];have m:ax (ax (2*(ps[a].aY.length:Z))-1)=(ps[a].d.length:Z):=by
   rw[bh (x:=2*(ps[a].aY.length:Z)) aa aa,bh aa aa];omega
  rw[m];refine bE (P:=λf=>f=((gQ ps (a+1):Z),(ps.take a).map kr,kr ps[a],())) ?_ ?_
  ·refine bQ ps[a].d.length (λc g=>g=(((gQ ps a+c:X):Z),(c:Z),(ps.take a).map kr,(ps[a].d.take c).map (λi=>aB (aX i)),())) rfl ?_ ?_
   ·rintro c _ h rfl;have p:=vz aP.d e (j:=c) h;dsimp only;rw[aZ (aF (aa:(c:Z)<(ps[a].d.length:Z))),bc aa,bc aa];refine bz (y:=ps[a].d[c]) (by rw[b.rJ];exact gg p) ?_;refine bz (r3 (o _ (b3 h))) ?_;dsimp only;rw[eS (by grind),bK];grind [nA,bu]
   rintro _ rfl;dsimp only;rw[aW (aA (aa:¬((ps[a].d.length:Z)<(ps[a].d.length:Z)))),cB,<-l];exact bu.2 bn
  rintro _ rfl;dsimp only;rw[eS (by grind),bK];grind [nA,bu]
 rintro _ rfl;dsimp only;rw[a7,b.q1,aW (aA (aa:¬((ps.length:Z)<(ps.length:Z)))),cB];grind [bu]
end
end
section
section
variable {n:X} {ps:bm aP} {F:fI}
theorem Jm {a:aP} (b:a.d.length=3):u9 (kr a,())=Y (aB (ja a.d),()):=by grind [NH,Lj,kr]
theorem YO (a:hE n ps F):Dk (F,())=Y (0,()):=by
 obtain⟨t,B,u,C,D⟩:=a.small;obtain⟨v1,fe⟩:=a.TC;have z:=a.pD;have A:=a.del;unfold Dk;refine bO.1 ?_;dsimp only;refine bz (y:=.inl ()) ?_ ?_
 ·rw[a7,t,aW (aA (aa:¬((n:Z)>200)))];refine ai (Y7 aa a.or) ?_;dsimp only;rw[aW (by rfl),a7,a.yR,bc aa,aZ ac,a7,a7,u,aW ac]
 dsimp only;refine bz (adu a) ?_;dsimp only;refine bz (y:=.inl ()) ?_ ?_
 ·rw[aZ (by rfl),aZ (by grind)];refine ai (Wc a) ?_;grind
 dsimp only;refine bE (P:=λe=>e=.inl ()) ?_ ?_
 ·have m:∀b∈[F.2.2.2.2.2.1,F.2.2.1],b.length<=1000/\∀o∈b,e3 o/\cE o≠2047:=λb m=>by
   grind
  refine bQ 2 (λg f=>f=((g:Z),[F.2.2.2.2.2.1,F.2.2.1],())) rfl ?_ ?_
  ·rintro g _ r rfl;have l:g<([F.2.2.2.2.2.1,F.2.2.1]:et).length:=r;obtain⟨ay,s⟩:=m _ (b3 l);dsimp only;rw[a7,show(([F.2.2.2.2.2.1,F.2.2.1]:et).length:Z)=2 from rfl,aZ (aF (aa:(g:Z)<2)),bc aa,je l];generalize([F.2.2.2.2.2.1,F.2.2.1]:et)[g]=b at*;refine bE (P:=λe=>e=.inl ([F.2.2.2.2.2.1,F.2.2.1],())) ?_ (by grind [bu]);refine bQ b.length (λh f=>f=((h:Z),[F.2.2.2.2.2.1,F.2.2.1],())) rfl ?_ ?_
   ·rintro h _ j rfl;obtain⟨v,w⟩:=s _ (b3 j);dsimp only;rw[a7,aZ (aF (aa:(h:Z)<(b.length:Z))),bc aa];refine bz (eR j) (bz (Fb v) ?_);dsimp only;rw[aA w,aW (by rfl)];grind [bu]
   rintro _ rfl;dsimp only;rw[a7,aW (aA (aa:¬((b.length:Z)<(b.length:Z))))];grind [bu]
  grind [bu]
 rintro _ rfl;dsimp only;refine bz (NJ a) ?_;dsimp only;refine bE (P:=λe=>e=.inl ()) ?_ (by grind [bu]);refine bQ ps.length (λc f=>f=((c:Z),ps.map kr,())) rfl ?_ ?_
 ·rintro c _ i rfl;obtain⟨I,x,_⟩:=a.ok.hl i;dsimp only;rw[a7,cg,aZ (aF (aa:(c:Z)<(ps.length:Z))),bc aa,je (by grind),anr];refine bz (y:=.inl (ps.map kr,())) ?_ (bu.2 bn);have q:al (kr ps[c])=(ps[c].d.length:Z):=(by grind [cg,a7,kr]);rw[q,fY];by_cases p:ps[c].aY.length=2
  ·obtain⟨E,G,H,_⟩:=(a.ok.k _ (cF i)).two p x;simp_all [fY,aW,aA,ai,Jm,oE,aF,aZ]
  grind
 rintro _ rfl;dsimp only;rw[a7,cg,aW (aA (aa:¬((ps.length:Z)<(ps.length:Z))))];grind [bu]
theorem Pd (b:hE n ps F):z2 (F,())=Y (((fH ps).1,(fH ps).2.1,(fH ps).2.2,()),0,()):=by
 obtain⟨w,x,z,A,B⟩:=b.small;have u:=b.pD;unfold z2;refine bO.1 ?_;refine bz (YO b) ?_;dsimp only;rw[aW (by rfl)];refine bz (NJ b) ?_;dsimp only;refine bE (P:=λp=>p=(((0:Z),(0:Z),(0:Z),()),((fH ps).1,(fH ps).2.1,(fH ps).2.2,()),())) ?_ (by grind [bu]);refine bQ ps.length (λa q=>q=((a:Z),((0:Z),(0:Z),(0:Z),()),((fH (ps.take a)).1,(fH (ps.take a)).2.1,(fH (ps.take a)).2.2,()),ps.map kr,())) rfl ?_ ?_
 ·rintro a _ e rfl;obtain⟨t,i,_⟩:=b.ok.hl e;have v:=b.ae9 (aa:a<=ps.length);have o:=SE e;have m:al (kr ps[a])=(ps[a].d.length:Z):=(by grind [cg,a7,kr]);have l:ar (kr ps[a]) 0=Y (aB (aX (ps[a].d.getD 0 0))):=by
   grind [j1,eR,cg,trans,kr]
  dsimp only;rw[a7,cg,aZ (aF (aa:(a:Z)<(ps.length:Z))),bc aa,je (by grind),anr];refine bz (y:=(((0:Z),(0:Z),(0:Z),()),((fH (ps.take (a+1))).1,(fH (ps.take (a+1))).2.1,(fH (ps.take (a+1))).2.2,()),ps.map kr,())) ?_ (bu.2 bn);refine ai l (ai (oE (iC _)) ?_);dsimp only;rw[m,fY,o];unfold j7;by_cases h:ps[a].aY.length=2/\h1 (ja ps[a].d)<0
  ·obtain⟨r,j,s,_⟩:=(b.ok.k _ (cF e)).two h.1 i;refine ai (y:=.inr (((0:Z),(0:Z),(0:Z),()),((fH (ps.take a)).1+1,(fH (ps.take a)).2.1,(fH (ps.take a)).2.2+1,()),ps.map kr,())) ?_ ?_
   ·rw[aF (aa:((ps[a].d.length:X):Z)=3),bG];refine ai (Jm aa) (ai (oE j) ?_);dsimp only;rw[aZ (aF h.2),Z8 aa aa,bh aa aa]
   grind
  refine ai (y:=.inl ((ps[a].aY.length:Z),((0:Z),(0:Z),(0:Z),()),((fH (ps.take a)).1,(fH (ps.take a)).2.1,(fH (ps.take a)).2.2,()),ps.map kr,())) ?_ ?_
  ·by_cases c:ps[a].aY.length=2
   ·obtain⟨r,j,s,_⟩:=(b.ok.k _ (cF e)).two c i;simp_all [aW,aA,ai,Jm,oE,aF,bG]
   grind
  dsimp only;rw[cc h];by_cases f:h1 (aX (ps[a].d.getD 0 0))<0
  ·rw[aF f,bG,aw f];grind [bh]
  rw[aA f,bP,au f];by_cases g:h1 (aX (ps[a].d.getD 0 0))>0
  ·rw[aF g,bG,aw g];grind [bh]
  rw[aA g,bP,au g];have ao:ps[a].aY.length=1:=by
   rcases t with c|c
   ·exact c
   obtain⟨_,_,_,C⟩:=(b.ok.k _ (cF e)).two c i;omega
  grind [bh]
 rintro _ rfl;dsimp only;rw[a7,cg,aW (aA (aa:¬((ps.length:Z)<(ps.length:Z)))),cB];grind [bu]
end
end
section
def cU {α:Type} (m n:X) (E:X->X->α):bm (bm α):=az m λi=>az n (E i)
def gm {α:Type} (E:X->X->α) (i j:X) (c:α):X->X->α:=λa b=>if a=i/\b=j then c else E a b
section
variable {α:Type} {m n:X} {E:X->X->α} {i j:X}
theorem nv:(cU m n E).length=m:=cN _ _
def wl {c:X->X->α} (d:∀a,a<m->∀b,b<n->E a b=c a b):cU m n E=cU m n c:=db λa e=>db λb f=>d a e b f
def nt (a:i<m):ba (cU m n E).length (i:Z)=Y i:=by rw[nv];exact fc a
def nu (b:i<m) (c:j<n):((a1 (cU m n E) i λa=>Y a).bind λa=>ba a.length (j:Z))=Y j:=by unfold cU;rw[hC (gR b),aE,cN,fc c]
def wm (k:i<m) (l:j<n) (f:α):(a1 (cU m n E) i λe=>(a1 e j λ_=>Y (e.set j f)).map λo=>(cU m n E).set i o)=Y (cU m n (gm E i j f)):=by
 unfold cU;rw[hC (gR k),hC (gR l),ji];congr 1;rw[hx,hx];refine db λg p=>?_;by_cases a:g=i
 ·subst a;rw[gG];refine db λd h=>?_;by_cases b:d=j
  ·subst b;rw[gG];exact(aw ⟨bn,bn⟩).symm
  rw[hb _ _ b];exact(au (λc=>b c.2)).symm
 rw[hb _ _ a];refine db λd h=>?_;exact(au (λc=>a c.1)).symm
def mq (a:i<m):ar (cU m n E) (i:Z)=Y (az n (E i)):=gg (gR a)
end
def BY (E:X->X->ez) (i j:X) (c:ez):(λa b=>aB (gm E i j c a b))=gm (λa b=>aB (E a b)) i j (aB c):=by funext a b;unfold gm;split<;>rfl
def g2 (ps:bm aP) (a j:X):ez:=if a=j then iT 1 else match(ps.flatMap akk)[j]? with
 |some b=>if(ps.flatMap aP.aY).getD a 0∈b.1 then aX (b.2 ((ps.flatMap aP.aY).getD a 0)) else Y 0
 |none=>Y 0
def iI (ps:bm aP):X->X->X->ez
 |0=>λ_ _=>Y 0
 |b+1=>match ps[b]? with
  |some a=>if a.aY.length=2 then gm (gm (gm (gm (iI ps b) (cQ ps b) (cQ ps b) (aX (a.d.getD 0 0))) (cQ ps b+1) (cQ ps b) (aX (a.d.getD 1 0))) (cQ ps b) (cQ ps b+1) (aX (a.d.getD 1 0))) (cQ ps b+1) (cQ ps b+1) (aX (a.d.getD 2 0))
   else gm (iI ps b) (cQ ps b) (cQ ps b) (aX (a.d.getD 0 0))
  |none=>iI ps b
section
variable {n:X} {ps:bm aP} {F:fI}
def kl (ps:bm aP) (j b a:X):gB:=if a<j then aB (g2 ps b a) else if b=a then aB (iT 1) else kt
def sp (ps:bm aP) (d:it) (c:aj5) (j e a b:X):gB:=if b=j/\(ps.flatMap aP.aY).getD a 0∈c.take e then aB (aX (d.2 ((ps.flatMap aP.aY).getD a 0))) else kl ps j a b
theorem hp.getD (c:hp n ps) {a:X} (e:a<n):(ps.flatMap aP.aY).getD ((ps.flatMap aP.aY).idxOf a) 0=a:=by have d:=c.perm.mem_iff.2 (gD.2 e);have b:=Cj.2 d;rw[k0,bi b,anp b];rfl
def hp.idx (b:hp n ps) (e:a<n):(ps.flatMap aP.aY).idxOf ((ps.flatMap aP.aY).getD a 0)=a:=by have c:a<(ps.flatMap aP.aY).length:=(by rw[b.len];exact e);have f:=b.perm.nodup_iff.2 sE;rw[k0,bi c,wX];have d:=Cj.2 (cF c);exact(p3 f).1 (anp d)
end
end
section
section
variable {n:X} {ps:bm aP} {F:fI}
def hp.eF (f:hp n ps) (i:a<n):∃b c,∃d:b<ps.length,c<ps[b].aY.length/\a=cQ ps b+c:=by
 have k:∀b,b<=ps.length->a<cQ ps b->∃b c,∃d:b<ps.length,c<ps[b].aY.length/\a=cQ ps b+c:=by
  intro b
  induction b with
  |zero=>intro _ g;exact absurd g (by unfold cQ;simp)
  |succ b j=>
   intro d h;by_cases e:a<cQ ps b
   ·exact j aa e
   rw[rU aa] at h;exact⟨b,a-cQ ps b,aa,aa,aa⟩
 exact k ps.length (bd _) (by rw[Fc,f.len];exact i)
structure TU (n:X) (ps:bm aP) (F:fI) (j:X) (c:it) (lo:X) (S:aj5):Prop where
 cs:(ps.flatMap akk)[j]?=Y c
 Sv:ar F.2.2.2.1 (j:Z)=Y (lo:Z)
 s1:ar F.2.2.2.1 ((j+1:X):Z)=Y ((lo+S.length:X):Z)
 iA:∀t (px:t<S.length),ar F.2.2.2.2.1 ((lo+t:X):Z)=Y ((ps.flatMap aP.aY).idxOf S[t]:Z)/\ar F.2.2.2.2.2.1 ((lo+t:X):Z)=Y (c.2 S[t])
 mem:∀r,r∈S↔r∈c.1
 nd:S.Nodup
 row:∀r∈c.1,j<(ps.flatMap aP.aY).idxOf r/\(ps.flatMap aP.aY).idxOf r<n/\r<n/\e3 (c.2 r)/\cE (c.2 r)≠2047
 le:lo+S.length<=144
def hE.VZ (c:hE n ps F) (B:a<n):∃r H x,TU n ps F a r H x:=by
 obtain⟨d,D,h,A,rfl⟩:=c.ok.eF B;obtain⟨g,s,t⟩:=c.ok.uY h A;obtain⟨m,z⟩:=hT.1 t;have o:=HG (gr λb=>(ps.flatMap aP.aY).idxOf b) m;have K:=MX (gr λb=>(ps.flatMap aP.aY).idxOf b) (cs:=ps.flatMap akk) (cQ ps d+D+1);have v:=λe i=>vz (gr λb=>(ps.flatMap aP.aY).idxOf b) m (j:=e) i;have w:=λe i=>vz (jX λb=>(ps.flatMap aP.aY).idxOf b) m (j:=e) i;rw[z] at o v w;have p:=c.ok.dd _ (cF h);have C:=c.small;have u:(gr (λb=>(ps.flatMap aP.aY).idxOf b) (ps[d].rows,g)).length=(qZ (λb=>(ps.flatMap aP.aY).idxOf b) ps[d].rows).length:=(by unfold gr;rw[eP]);have J:(jX (λb=>(ps.flatMap aP.aY).idxOf b) (ps[d].rows,g)).length=(qZ (λb=>(ps.flatMap aP.aY).idxOf b) ps[d].rows).length:=(by unfold jX;rw[eP]);have G:∀f:bm it,(f.flatMap (jX λb=>(ps.flatMap aP.aY).idxOf b)).length=(f.flatMap (gr λb=>(ps.flatMap aP.aY).idxOf b)).length:=by
  intro f
  induction f with
  |nil=>rfl
  |cons r f E=>
   rw[ot,ot,h5,h5,E];congr 1;unfold jX gr;rw[eP,eP]
 refine⟨(ps[d].rows,g),_,qZ (λb=>(ps.flatMap aP.aY).idxOf b) ps[d].rows,t,c.st _ aa,?_,λe i=>⟨?_,?_⟩,λl=>(BU _ _).mem_iff,(BU _ _).nodup_iff.2 p.nd,λl q=>?_,?_⟩
 ·rw[c.st _ aa,o,u]
 ·rw[c.iA];refine(gg (v e aa)).trans ?_;unfold gr;rw[m6]
 ·rw[c.nB,<-G];refine(gg (w e aa)).trans ?_;unfold jX;rw[m6]
 ·obtain⟨I,y⟩:=c.ok.after h q;exact⟨aa,y,gD.1 (p.sub l q),(c.ok.k _ (cF h)).Pe g s l,p.fin g s l q⟩
 rw[<-u,<-o];rw[c.iA] at C;omega
def adS (o:hE n ps F):Et (F,())=Y (cU n n (λb a=>aB (g2 ps b a)),cU n n (λb a=>aB (iI ps ps.length b a)),()):=by
 obtain⟨C,ci,co,cv,c1⟩:=o.small;have a3:=o.pD;unfold Et;refine bO.1 ?_;dsimp only;refine bE (P:=λc=>c=(cU n n (kl ps 0),cU n n (λ_ _=>kt),())) ?_ ?_
 ·refine bQ n (λe v=>v=((e:Z),cU e n (kl ps 0),cU e n (λ_ _=>kt),())) rfl ?_ ?_
  ·rintro e _ L rfl;dsimp only;rw[a7,C,aZ (aF (aa:(e:Z)<(n:Z))),bc aa];refine bz (h0 aa) ?_;rw[eS (by rw[nv];simp;omega),bK];refine bz (h0 aa) ?_;rw[eS (by rw[nv];simp;omega),bK];have ao:cU e n (kl ps 0)++[bI n (bp,((bp,(([]:aj6),())),((0:Z),())))]=cU (e+1) n (λb a=>if b=e then kt else kl ps 0 b a):=by
    unfold cU;rw[nT,iQ];congr 1
    ·refine db λb s=>db λa g=>?_;show kl ps 0 b a=if b=e then kt else kl ps 0 b a
     rw[au aa]
    congr 1;refine db λa g=>?_;show kt=if e=e then kt else kl ps 0 e a
    rw[aw bn]
   have D:cU e n (λ_ _=>kt)++[bI n (bp,((bp,(([]:aj6),())),((0:Z),())))]=cU (e+1) n (λ_ _=>kt):=(by unfold cU;rw[nT,iQ];rfl);rw[ao,D];refine bz (nt (akQ e)) ?_;refine bz (KI ab ab) ?_;dsimp only;refine bz (nu (akQ e) L) ?_;refine bz (wm (akQ e) L _) ?_;refine bu.2 ?_;show _=_;have u:cU (e+1) n (gm (λb a=>if b=e then kt else kl ps 0 b a) e e (aB (iT 1)))=cU (e+1) n (kl ps 0):=wl λb s a g=>by
    unfold gm kl;dsimp only;by_cases h:b=e
    ·by_cases i:a=e
     ·rw[aw ⟨h,i⟩,au aa,aw aa]
     rw[au (λc=>i c.2),aw h,au aa,au aa]
    rw[au (λc=>h c.1),au h]
   rw[u]
  rintro _ rfl;dsimp only;rw[a7,C,aW (aA (aa:¬((n:Z)<(n:Z))))];exact bu.2 bn
 rintro _ rfl;dsimp only;refine bE (P:=λc=>c=(cU n n (λb a=>aB (g2 ps b a)),cU n n (λ_ _=>kt),())) ?_ ?_
 ·refine bQ n (λl v=>v=((l:Z),cU n n (kl ps l),cU n n (λ_ _=>kt),())) rfl ?_ ?_
  ·rintro l _ G rfl;obtain⟨p,A,m,q⟩:=o.VZ G;have bl:=q.le;dsimp only;rw[a7,C,aZ (aF (aa:(l:Z)<(n:Z))),bc aa,q.Sv,bK];refine bE (P:=λc=>c=(cU n n (kl ps (l+1)),cU n n (λ_ _=>kt),())) ?_ (by rintro _ rfl;exact bu.2 bn);refine bQ m.length (λf v=>v=(((A+f:X):Z),cU n n (sp ps p m l f),cU n n (λ_ _=>kt),())) ?_ ?_ ?_
   ·show _=_;have:cU n n (sp ps p m l 0)=cU n n (kl ps l):=wl λb s a g=>(by unfold sp;rw[alV,au ac]);rw[this];rfl
   ·rintro f _ t rfl;obtain⟨V,ad⟩:=q.iA f t;obtain⟨bx,H,T,aS,ce⟩:=q.row _ ((q.mem _).1 (b3 t));dsimp only;rw[q.s1,bK,aZ (aF (aa:((A+f:X):Z)<((A+m.length:X):Z))),bc aa,V,bK];refine bz (nt H) ?_;rw[ad,bK];refine bz (ua aS) ?_;dsimp only;refine bz (nu H G) (bz (wm H G _) ?_);refine bu.2 ?_;show _=_;have u:cU n n (gm (sp ps p m l f) ((ps.flatMap aP.aY).idxOf m[f]) l (aB (aX (p.2 m[f]))))=cU n n (sp ps p m l (f+1)):=wl λb s a g=>by
     unfold gm sp;rw[nA t];by_cases h:a=l
     ·by_cases i:b=(ps.flatMap aP.aY).idxOf m[f]
      ·have w:(ps.flatMap aP.aY).getD b 0=m[f]:=(by rw[i];exact o.ok.getD T);rw[aw ⟨i,h⟩,aw ⟨h,by rw[w];exact k1 _ (gp.2 bn)⟩,w]
      have w:(ps.flatMap aP.aY).getD b 0≠m[f]:=λw=>i (by rw[<-w];exact(o.ok.idx s).symm);rw[au (λc=>i c.1)];by_cases B:(ps.flatMap aP.aY).getD b 0∈m.take f
      ·rw[aw ⟨h,B⟩,aw ⟨h,nG _ B⟩]
      rw[au (λc=>B c.2),au (λc=>(hn.1 c.2).elim B (λam=>w (gp.1 am)))]
     rw[au (λc=>h c.2),au (λc=>h c.1),au (λc=>h c.1)]
    rw[u];rfl
   rintro _ rfl;dsimp only;rw[q.s1,bK,aW (aA (aa:¬(((A+m.length:X):Z)<((A+m.length:X):Z))))];refine bu.2 ?_;show _=_;have u:cU n n (sp ps p m l m.length)=cU n n (kl ps (l+1)):=wl λb s a g=>by
    unfold sp kl;rw[hM];by_cases h:a=l
    ·subst h;rw[b8 (akQ a)];unfold g2;rw[q.cs];dsimp only;by_cases i:(ps.flatMap aP.aY).getD b 0∈p.1
     ·have S:=(q.row _ i).1;rw[o.ok.idx s] at S;rw[aw ⟨bn,(q.mem _).2 i⟩,au aa,aw i]
     rw[au (λc=>i ((q.mem _).1 c.2)),au (wV a),au i];split
     ·rfl
     exact Ir
    rw[au (λc=>h c.1)];by_cases i:a<l
    ·rw[aw i,aw aa]
    rw[au i,au (aa:¬a<l+1)]
   rw[u]
  rintro _ rfl;dsimp only;rw[a7,C,aW (aA (aa:¬((n:Z)<(n:Z))))];refine bu.2 ?_;show _=_;have u:cU n n (kl ps n)=cU n n (λb a=>aB (g2 ps b a)):=wl λb s a g=>(by unfold kl;rw[b8 g]);rw[u]
 rintro _ rfl;dsimp only;refine bE (P:=λc=>c=(cU n n (λb a=>aB (g2 ps b a)),cU n n (λb a=>aB (iI ps ps.length b a)),())) ?_ (by rintro _ rfl;exact bu.2 bn);refine bQ ps.length (λa v=>v=((cQ ps a:Z),(gQ ps a:Z),(a:Z),cU n n (λb a=>aB (g2 ps b a)),cU n n (λb p=>aB (iI ps a b p)),())) ?_ ?_ ?_
 ·show _=_;have:cU n n (λ_ _=>kt)=cU n n (λb p=>aB (iI ps 0 b p)):=wl λb s a g=>Ir;rw[this];rfl
 ·rintro a _ g rfl;obtain⟨c2,dg,_⟩:=o.ok.hl g;have a4:=o.ok.x5 g;obtain⟨ap,av,a0,O⟩:=o.diag g;obtain⟨N,an⟩:=o.at g;have E:=(o.ok.k _ (cF g)).CT;have R:=λf t=>vz aP.d g (j:=f) t;have K:iI ps (a+1)=if ps[a].aY.length=2 then gm (gm (gm (gm (iI ps a) (cQ ps a) (cQ ps a) (aX (ps[a].d.getD 0 0))) (cQ ps a+1) (cQ ps a) (aX (ps[a].d.getD 1 0))) (cQ ps a) (cQ ps a+1) (aX (ps[a].d.getD 1 0))) (cQ ps a+1) (cQ ps a+1) (aX (ps[a].d.getD 2 0))
   else gm (iI ps a) (cQ ps a) (cQ ps a) (aX (ps[a].d.getD 0 0)):=by
   rw[iI,bi g]
  dsimp only;rw[a7,o.q1,aZ (aF (aa:(a:Z)<(ps.length:Z))),show aM (a:Z)=((a+1:X):Z) from bc aa];refine bz (y:=((cQ ps (a+1):Z),(gQ ps (a+1):Z),cU n n (λb a=>aB (g2 ps b a)),cU n n (λb p=>aB (iI ps (a+1) b p)),())) ?_ (bu.2 bn);refine ai (nt (aa:cQ ps a<n)) (ai O ?_);have Q:e3 (ps[a].d.getD 0 0):=(by rw[j1 aa];exact E _ (b3 _));refine ai (ua Q) ?_;dsimp only;refine ai (nu (aa:cQ ps a<n) (aa:cQ ps a<n)) (ai (wm (aa:cQ ps a<n) (aa:cQ ps a<n) _) ?_);refine ai (y:=(cU n n (λb a=>aB (g2 ps b a)),cU n n (λb p=>aB (iI ps (a+1) b p)),())) ?_ ?_
  ·rw[o.hl a g];simp only[aE];by_cases h:ps[a].aY.length=2
   ·have z:cQ ps a<n:=aa;have r:cQ ps a+1<n:=aa;have J:∀f,f<ps[a].d.length->ar F.2.2.1 ((gQ ps a+f:X):Z)=Y (ps[a].d.getD f 0):=λf t=>by
     rw[o.rJ,j1 t];exact gg (R f t)
    have I:=J 1 aa;have i:=J 2 aa;have M:e3 (ps[a].d.getD 1 0):=(by rw[j1 aa];exact E _ (b3 _));have U:e3 (ps[a].d.getD 2 0):=(by rw[j1 aa];exact E _ (b3 _));have D:ax ((gQ ps a:Z)+2)=((gQ ps a+2:X):Z):=(by rw[bh aa aa];omega);rw[fY,aF (aa:((ps[a].aY.length:X):Z)=2),bG,show aM (cQ ps a:Z)=((cQ ps a+1:X):Z) from bc aa,show aM (gQ ps a:Z)=((gQ ps a+1:X):Z) from bc aa,D];refine ai (nt r) (ai (nt z) (ai (nt r) (ai I (ai (ua M) ?_))));dsimp only;refine ai I (ai (ua M) ?_);dsimp only;refine ai i (ai (ua U) ?_);dsimp only;refine ai (nu r z) (ai (wm r z _) (ai (nu z r) (ai (wm z r _) (ai (nu r r) (ai (wm r r _) ?_)))));rw[K,b8 h,<-BY,<-BY,<-BY,<-BY]
   rw[fY,aA (aa:¬((ps[a].aY.length:X):Z)=2),bP,K,au h,<-BY]
  dsimp only;rw[o.hl a g];simp only[bK];rw[N,rU g,bh (x:=(cQ ps a:Z)+(ps[a].aY.length:Z)) aa aa,Int.natCast_add]
 rintro _ rfl;dsimp only;rw[a7,o.q1,aW (aA (aa:¬((ps.length:Z)<(ps.length:Z))))];exact bu.2 bn
end
end
section
def jL (n a:X):aj5:=ako (a-1) (min n (a+2)-(a-1))
def oR (ps:bm aP) (n b c:X) (a:X×X):ez:=cJ (cJ (g2 ps b a.1) (iI ps ps.length a.1 a.2)) (g2 ps c a.2)
def jK (n b:X):aj7:=(bJ b).flatMap λa=>(jL n a).map λc=>(a,c)
def iU (ps:bm aP) (n a b:X):ez:=n9 ((jK n n).map (oR ps n a b))
def Kx (n a:X):jK n (a+1)=jK n a++(jL n a).map λb=>(a,b):=by unfold jK;rw[jB,nE];simp
def FV (n:X):∀m,(jK n m).length<=3*m
 |0=>bd _
 |m+1=>by have:=FV n m;rw[Kx,h5,eP];have:(jL n m).length<=3:=(by unfold jL;rw[aos];omega);omega
def adQ {n:X} (c:b<(jL n a).length):(jL n a)[b]=a-1+b:=by simp[jL]
def LZ (ps:bm aP) (a b:X):cW (g2 ps a b):=by
 unfold g2;split
 ·exact x2 1
 split
 ·split
  ·exact iC _
  exact yq
 exact yq
def B0 {E:X->X->ez} {e:ez} (f:∀c d,cW (E c d)) (g:cW e):∀c d,cW (gm E a b e c d):=λc d=>by
 unfold gm;split
 ·exact g
 exact f c d
def Cc (ps:bm aP):∀m a b,cW (iI ps m a b)
 |0=>λa b=>yq
 |m+1=>by
  rw[iI];cases ps[m]? with
  |none=>exact Cc ps m
  |some d=>
   dsimp only;by_cases c:d.aY.length=2
   ·rw[aw c];exact B0 (B0 (B0 (B0 (Cc ps m) (iC _)) (iC _)) (iC _)) (iC _)
   rw[au c];exact B0 (Cc ps m) (iC _)
section
variable {n:X} {ps:bm aP} {F:fI}
def ad0 (m:hE n ps F) (p:n<=5):Eu (F,())=Y (((n:Z),(n:Z),az (n*n) (λb=>aB (iU ps n (b %n) (b/n))),()),0,()):=by
 have K:=BT p;obtain⟨E,_⟩:=m.small;unfold Eu;refine ai (RJ m) ?_;dsimp only;rw[aW (by rfl),a7,E,aW (aA (aa:¬((n:Z)>64)))];refine ai (adS m) (ai (adY p) ?_);dsimp only;refine bO.1 ?_;generalize L:(((0:Z),(0:Z),[],()):iL)=e;refine bE (P:=λg=>g=(e,((n:Z),(n:Z),az (n*n) (λb=>aB (iU ps n (b %n) (b/n))),()),())) ?_ (by rintro _ rfl;exact bu.2 bn);refine bQ n (λc h=>h=((c:Z),e,((n:Z),(n:Z),az (n*n) (q2 (λb=>aB (iU ps n (b %n) (b/n))) (c*n)),()),())) ?_ ?_ ?_
 ·rw[Nat.zero_mul];rfl
 ·rintro c _ o rfl;dsimp only;rw[aZ (aF (aa:(c:Z)<(n:Z))),bc aa];refine bE (P:=λg=>g=(e,((n:Z),(n:Z),az (n*n) (q2 (λb=>aB (iU ps n (b %n) (b/n))) (c*n+n)),()),())) ?_ (by rintro _ rfl;rw[Nat.add_mul,Nat.one_mul];exact bu.2 bn);refine bQ n (λd h=>h=((d:Z),e,((n:Z),(n:Z),az (n*n) (q2 (λb=>aB (iU ps n (b %n) (b/n))) (c*n+d)),()),())) rfl ?_ ?_
  ·rintro d _ k rfl;obtain⟨t,u⟩:=NM (n:=n) (j:=c) k;dsimp only;rw[aZ (aF (aa:(d:Z)<(n:Z))),show aM (d:Z)=((d+1:X):Z) from bc aa];generalize A:((n:Z),(n:Z),az (n*n) (q2 (λb=>aB (iU ps n (b %n) (b/n))) (c*n+d)),())=i;refine bE (P:=λg=>g=(e,i,((jK n n).map (oR ps n d c)).map aB,())) ?_ ?_
   ·refine bQ n (λa h=>h=((a:Z),e,i,((jK n a).map (oR ps n d c)).map aB,())) rfl ?_ ?_
    ·rintro a _ r rfl;have C:=FV n a;dsimp only;rw[aZ (aF (aa:(a:Z)<(n:Z))),bc aa];have v:(if 0>ax ((a:Z)-1) then 0 else ax ((a:Z)-1))=((a-1:X):Z):=by
      rw[bh aa aa];split<;>omega
     rw[v];have J:(jL n a).length=min n (a+2)-(a-1):=(by unfold jL;rw[aos]);refine bE (P:=λg=>g=(e,i,((jK n (a+1)).map (oR ps n d c)).map aB,())) ?_ (by rintro _ rfl;exact bu.2 bn);refine bQ (jL n a).length (λb h=>h=(((a-1+b:X):Z),e,i,((jK n a++((jL n a).take b).map λf=>(a,f)).map (oR ps n d c)).map aB,())) ?_ ?_ ?_
     ·rw[alV,sD,oq];rfl
     ·rintro b _ l rfl;have s:a-1+b<n:=aa;have I:a-1+b<=a+1:=aa;have D:=adQ l;dsimp only;refine bz (y:=.inl (e,i,((jK n a++((jL n a).take b).map λf=>(a,f)).map (oR ps n d c)).map aB,())) ?_ ?_
      ·rw[aF (aa:((a-1+b:X):Z)<(n:Z)),aZ (by rfl),aF (aa:((a-1+b:X):Z)<=((a+1:X):Z)),bG]
      dsimp only;refine bz (mq k) (bz (gg (gR r)) (bz (mq r) (bz (gg (gR s)) ?_)));refine bz (KJ (LZ _ _ _) (Cc _ _ _ _)) ?_;dsimp only;refine bz (mq o) (bz (gg (gR s)) (bz (KJ (nq _ _) (LZ _ _ _)) ?_));dsimp only;rw[eS (by simp;omega),bK,bc aa];refine bu.2 ?_;show _=_;have w:(jK n a++((jL n a).take (b+1)).map λf=>(a,f))=(jK n a++((jL n a).take b).map λf=>(a,f))++[(a,a-1+b)]:=(by rw[nA l,amA,D,ald];rfl);rw[w];simp only[amA,amG,List.map_nil];rfl
     rintro _ rfl;dsimp only;refine bz (y:=.inr (.inr (e,i,((jK n (a+1)).map (oR ps n d c)).map aB,()))) ?_ (bu.2 bn);rw[cB,<-Kx];by_cases H:a-1+(jL n a).length<n
     ·rw[aF (aa:((a-1+(jL n a).length:X):Z)<(n:Z)),aZ (by rfl),aA (aa:¬((a-1+(jL n a).length:X):Z)<=((a+1:X):Z)),bP]
     rw[aA (aa:¬((a-1+(jL n a).length:X):Z)<(n:Z)),aW (by rfl)]
    rintro _ rfl;dsimp only;rw[aW (aA (aa:¬((n:Z)<(n:Z))))];exact bu.2 bn
   rintro _ rfl;have C:=FV n n;dsimp only;refine bz (RQ (λG B=>?_) (by simp;omega)) ?_
   ·obtain⟨M,_,rfl⟩:=eQ.1 B;exact nq _ _
   dsimp only;have q:=Hr o k;rw[<-A];dsimp only;rw[TF p o k];refine bz (fc (by rw[cN];exact q)) ?_;have x:aB (n9 ((jK n n).map (oR ps n d c)))=(λb=>aB (iU ps n (b %n) (b/n))) (c*n+d):=(by show _=aB (iU ps n ((c*n+d) %n) ((c*n+d)/n));rw[t,u];rfl);rw[x,gO q,agb];exact bu.2 bn
  rintro _ rfl;dsimp only;rw[aW (aA (aa:¬((n:Z)<(n:Z))))];exact bu.2 bn
 rintro _ rfl;dsimp only;rw[aW (aA (aa:¬((n:Z)<(n:Z))))];refine bu.2 ?_;show _=_;have z:az (n*n) (q2 (λb=>aB (iU ps n (b %n) (b/n))) (n*n))=az (n*n) (λb=>aB (iU ps n (b %n) (b/n))):=db λb l=>(by unfold q2;rw[b8 l]);rw[z]
end
end
def wy (c d f:Rat) (e b:X->Rat):bm (Rat×(X->Rat)):=
 if c=0 then[(1/4,λa=>f*b a+(2*d*e a+1*b a)),(-(1/4),λa=>f*b a+(2*d*e a+-1*b a))]
 else[(c,λa=>e a+d/c*b a),((c*f-d*d)/c,b)]
def j3 (a:X->X->Rat):aj5->bm Rat->X->bm (Rat×(X->Rat))
 |1::b,d::ds,k=>(d,a k)::j3 a b ds (k+1)
 |2::b,d1::d2::d3::ds,k=>wy d1 d2 d3 (a k) (a (k+1))++j3 a b ds (k+2)
 |_,_,_=>[]
def wd (a:X->Rat):aj5->bm Rat->X->Rat
 |1::b,d::ds,k=>d*(a k*a k)+wd a b ds (k+1)
 |2::b,d1::d2::d3::ds,k=>(d1*(a k*a k)+2*d2*(a k*a (k+1))+d3*(a (k+1)*a (k+1)))+wd a b ds (k+2)
 |_,_,_=>0
inductive so (n:X):aj5->bm Rat->X->Prop
 |nil:so n [] [] n
 |one {BV:aj5} {ds:bm Rat} {d:Rat} {k:X} (h:so n BV ds (k+1)):so n (1::BV) (d::ds) k
 |two {BV:aj5} {ds:bm Rat} {d1 d2 d3:Rat} {k:X} (agZ:d1*d3-d2*d2≠0) (h:so n BV ds (k+2)):so n (2::BV) (d1::d2::d3::ds) k
def ms:aj5->bm Rat->X×X
 |1::b,d::ds=>let a:=ms b ds;if 0<d then(a.1+1,a.2) else if d<0 then(a.1,a.2+1) else a
 |2::b,d1::d2::d3::ds=>let a:=ms b ds;if d1*d3-d2*d2<0 then(a.1+1,a.2+1) else if 0<d1 then(a.1+2,a.2) else(a.1,a.2+2)
 |_,_=>(0,0)
def li (a:bm (Rat×(X->Rat))):X:=(a.filter λb=>br (b.1<0)).length
def tV (a:Rat×(X->Rat)) (b:bm (Rat×(X->Rat))):kV (a::b)=(if 0<a.1 then 1 else 0)+kV b:=by
 unfold kV;rw[lZ];by_cases c:0<a.1
 ·simp[c];omega
 simp[c]
def tN (a:Rat×(X->Rat)) (b:bm (Rat×(X->Rat))):li (a::b)=(if a.1<0 then 1 else 0)+li b:=by
 unfold li;rw[lZ];by_cases c:a.1<0
 ·simp[c];omega
 simp[c]
theorem S8 (k:j.length=a) (i:∀c,(∀b∈j,lf b.2 c a=0)->∀g,g<a->c g=0) (l:∀c,ia a c j=ia a c m):li j<=li m:=by
 have d:∀j:bm (Rat×(X->Rat)),kV (j.map λb=>(-b.1,b.2))=li j/\∀c,ia a c (j.map λb=>(-b.1,b.2))=-ia a c j:=λj=>by
  induction j with
  |nil=>exact⟨bn,λc=>by simp only[ia,sD];grind⟩
  |cons b j h=>
   refine⟨?_,λc=>?_⟩
   ·rw[gW,tV,tN,h.1];by_cases f:b.1<0
    ·rw[aw f,aw (show 0< -b.1 by grind)]
    rw[au f,au (show¬0< -b.1 by grind)]
   rw[gW,ia,ia,h.2];grind
 have e:=Le (n:=a) (R:=j.map λb=>(-b.1,b.2)) (S:=m.map λb=>(-b.1,b.2)) (by rw[eP];exact k) (λc e=>i c λb o=>e (-b.1,b.2) (eQ.2 ⟨b,o,bn⟩)) (λc=>by rw[(d j).2,(d m).2,l]);rwa[(d j).1,(d m).1] at e
theorem yN {s:Rat} (d:s*k=g) (e:g≠0):(0<k->(0<s↔0<g)/\(s<0↔g<0))/\(k<0->(0<s↔g<0)/\(s<0↔0<g)):=by
 have f:s≠0:=λc=>e (by rw[<-d,c];grind);have a:0<s\/0< -s:=(by grind);constructor
 ·intro b;rcases a with a|a
  ·have:=al2 a b;grind
  have:=al2 a b;grind
 intro b;have b:0< -k:=(by grind);rcases a with a|a
 ·have:=al2 a b;grind
 have:=al2 a b;grind
theorem afZ (r:k*l-g*g≠0) (d c:X->Rat) (b:X) (j:bm (Rat×(X->Rat))):(wy k g l d c).length=2/\(∀a,ia b a (wy k g l d c++j)=(k*(lf d a b*lf d a b)+2*g*(lf d a b*lf c a b)+l*(lf c a b*lf c a b))+ia b a j)/\(∀a,(∀B∈wy k g l d c,lf B.2 a b=0)->lf d a b=0/\lf c a b=0)/\kV (wy k g l d c++j)=(if k*l-g*g<0 then 1 else if 0<k then 2 else 0)+kV j/\li (wy k g l d c++j)=(if k*l-g*g<0 then 1 else if 0<k then 0 else 2)+li j:=by
 unfold wy;by_cases t:k=0
 ·subst t;have y:g≠0:=λf=>r (by rw[f];grind);have D:=K3 g;have v:(0:Rat)*l-g*g<0:=(by grind);rw[aw bn,aw v,aw v];have x:∀(h:Rat) a,lf (λe=>l*c e+(2*g*d e+h*c e)) a b=l*lf c a b+(2*g*lf d a b+h*lf c a b):=λh a=>by
   have:(λe=>l*c e+(2*g*d e+h*c e))=λe=>((λe=>(λ_=>(0:Rat)) e+(2*g)*d e) e)+(l+h)*c e:=(by funext e;grind);rw[this,rV,rV];have:∀q,lf (λ_=>(0:Rat)) a q=0:=λq=>by
    induction q with
    |zero=>rfl
    |succ q z=>rw[lf,z];grind
   rw[this];grind
  refine⟨bn,λa=>?_,λa n=>?_,?_,?_⟩
  ·simp only[kF,ho,ia,x];grind
  ·have o:=n _ (js ..);have p:=n _ (gC _ (js ..));rw[x] at o p;have w:lf c a b=0:=(by grind);rw[w] at o;have A:g*lf d a b=0:=(by grind);exact⟨(sK.1 A).resolve_left y,w⟩
  ·simp only[kF,ho,tV];rw[aw (by grind),au (by grind)];omega
  simp only[kF,ho,tN];rw[au (by grind),aw (by grind)];omega
 rw[au t];have u:(k*l-g*g)/k*k=k*l-g*g:=(by grind);refine⟨bn,λa=>?_,λa n=>?_,?_,?_⟩
 ·simp only[kF,ho,ia,rV];generalize lf d a b=E;generalize lf c a b=F;grind
 ·have o:=n _ (alY ..);have p:=n _ (alx _ (alY ..));rw[rV] at o;dsimp only at p;rw[p] at o;exact⟨by grind,p⟩
 ·have m:=yN u r;simp only[kF,ho,tV];generalize k*l-g*g=h at*;generalize h/k=C at*;have s:0<k\/k<0:=(by grind);rcases s with f|f
  ·have:=m.1 f;rw[aw f];by_cases i:h<0
   ·rw[aw i,au (by grind)];omega
   rw[au i,aw f,aw (by grind)];omega
  have:=m.2 f;rw[au (show¬0<k by grind)];by_cases i:h<0
  ·rw[aw i,aw (by grind)];omega
  rw[au i,au (show¬0<k by grind),au (by grind)];omega
 have m:=yN u r;simp only[kF,ho,tN];generalize k*l-g*g=h at*;generalize h/k=C at*;have s:0<k\/k<0:=(by grind);rcases s with f|f
 ·have:=m.1 f;rw[au (show¬k<0 by grind)];by_cases i:h<0
  ·rw[aw i,aw (by grind)];omega
  rw[au i,aw f,au (by grind)];omega
 have:=m.2 f;rw[aw f];by_cases i:h<0
 ·rw[aw i,au (by grind)];omega
 rw[au i,au (show¬0<k by grind),aw (by grind)];omega
theorem YS (g:X->X->Rat) {f:bm Rat} (p:so b d f a):a<=b/\(j3 g d f a).length=b-a/\(∀c,ia b c (j3 g d f a)=wd (λe=>lf (g e) c b) d f a)/\(∀c,(∀j∈j3 g d f a,lf j.2 c b=0)->∀e,a<=e->e<b->lf (g e) c b=0)/\kV (j3 g d f a)=(ms d f).1/\li (j3 g d f a)=(ms d f).2:=by
 induction p with
 |nil=>exact⟨bd _,by simp[j3],λc=>rfl,λc _ e q m=>absurd q aa,bn,bn⟩
 |@one d f n a p w=>
  obtain⟨i1,r,s,t,u,v⟩:=w;refine⟨aa,by rw[j3,iv,r];omega,λc=>by rw[j3,ia,s,wd],λc i e q m=>?_,?_,?_⟩
  ·rw[j3] at i;by_cases o:e=a
   ·subst o;exact i _ (js ..)
   exact t c (λj k=>i j (gC _ k)) e aa m
  ·rw[j3,tV,u,ms];by_cases h:0<n
   ·rw[b8 h,b8 h];dsimp only;omega
   rw[cc h,cc h];split<;>(first|omega|(dsimp only;omega))
  rw[j3,tN,v,ms];by_cases h:0<n
  ·rw[b8 h,cc (by grind)];dsimp only;omega
  rw[au h];by_cases l:n<0
  ·rw[b8 l,b8 l];dsimp only;omega
  rw[cc l,cc l];first|omega|(dsimp only;omega)
 |@two d f F G H a z p w=>
  obtain⟨i1,r,s,t,u,v⟩:=w;obtain⟨A,B,C,D,E⟩:=afZ z (g a) (g (a+1)) b (j3 g d f (a+2));refine⟨aa,by rw[j3,h5,A,r];omega,λc=>by rw[j3,B,s,wd],λc i e q m=>?_,?_,?_⟩
  ·rw[j3] at i;obtain⟨ao,x⟩:=C c λj k=>i j (nG _ k);by_cases o:e=a
   ·subst o;exact ao
   by_cases y:e=a+1
   ·subst y;exact x
   exact t c (λj k=>i j (k1 _ k)) e aa m
  ·rw[j3,D,u,ms];split
   ·dsimp only;omega
   split<;>(dsimp only;omega)
  rw[j3,E,v,ms];split
  ·dsimp only;omega
  split<;>(dsimp only;omega)
theorem af9 (q:∀f,f<a->c f f=1) (p:∀f b,b<f->f<a->c f b=0) (h:X->Rat) (u:∀f,f<a->lf (c f) h a=0):∀b,b<a->h b=0:=by
 suffices t:∀i b,b+i=a->∀d,b<=d->d<a->h d=0 fromλb j=>t (a-b) b aa b (bd _) j;intro i
 induction i with
 |zero=>intro b j d r g;omega
 |succ i v=>
  intro b j d r g;have l:=v (b+1) aa;by_cases n:d=b
  ·subst n;have m:=u d g;have s:∀e,e<=a->lf (c d) h e=if d<e then h d else 0:=λe=>by
    induction e with
    |zero=>intro _;rfl
    |succ e w=>
     intro x;rw[lf,w aa];by_cases k:d<e
     ·rw[aw k,aw aa,l e aa aa];grind
     rw[au k];by_cases o:e=d
     ·subst o;rw[aw aa,q e g];grind
     rw[au aa,p d e aa g];grind
   rw[s a (bd _),aw g] at m;exact m
  exact l d aa g
def Yl {c:X->X->Rat} {n:X} {f:bm Rat} (w:so n d f 0) (v:∀e,e<n->c e e=1) (u:∀e b,b<e->e<n->c e b=0) {i:X->X->Rat} (x:m2 i (bJ n) j) (B:∀b,b<n->∀h,h<n->i b h=i h b) (A:∀a,ns i (bJ n) a=wd (λe=>lf (c e) a n) d f 0):kV j=(ms d f).1/\li j=(ms d f).2/\j.length=n:=by
 obtain⟨ao,o⟩:=x.ok (n:=n) sE (λb g=>gD.1 g) (λb g h y=>B b (gD.1 g) h (gD.1 y));obtain⟨_,s,f2,t,f4,f5⟩:=YS c w;rw[o6] at ao;have k:∀a,ia n a j=ia n a (j3 c d f 0):=λa=>(by rw[(o a).1,f2,A]);have q:∀a,(∀m∈j,lf m.2 a n=0)->∀b,b<n->a b=0:=λa l b g=>(o a).2 l b (gD.2 g);have p:∀a,(∀m∈j3 c d f 0,lf m.2 a n=0)->∀b,b<n->a b=0:=λa l=>af9 v u a λe z=>t a l e aa z;have r:(j3 c d f 0).length=n:=(by rw[s];omega);refine⟨?_,?_,ao⟩
 ·rw[<-f4];exact an8 (Le ao q k) (Le r p λa=>(k a).symm)
 rw[<-f5];exact an8 (S8 ao q k) (S8 r p λa=>(k a).symm)
theorem aep {b a:Z} (f:aO b.natAbs<=3000000) (g:aO a.natAbs<=3000000) (t:a≠0) (v:b=e*a):vi (aN b,aN a,())=Y (aN e,aN 0,()):=by
 obtain⟨d,h,i⟩:=hI f;obtain⟨j,k,A⟩:=hI g;have u:(aN a).2.1≠[]:=λm=>t (vw.1 m);unfold vi;refine ai (r9 f) (ai (r9 g) ?_);dsimp only;refine ai (RP d j h k aa aa u) ?_;rw[hW,hW];have w:(aN b).1=br (b<0):=rfl;have x:(aN a).1=br (a<0):=rfl;rw[w,x];have o:(b.natAbs:Z)=(e.natAbs:Z)*(a.natAbs:Z):=(by rw[v,Int.natAbs_mul,ama]);have p:(b.natAbs:Z)/(a.natAbs:Z)=e.natAbs:=(by simp_all);have q:(b.natAbs:Z) %(a.natAbs:Z)=0:=(by simp_all);rw[p,q];have D:(e.natAbs:Z)<=b.natAbs:=(by rw[o];have:(e.natAbs:Z)*1<=(e.natAbs:Z)*(a.natAbs:Z):=amw aa aa;omega);have C:(eW (e.natAbs:Z).toNat).length<=100000:=yX (l:=(aN b).2.1) d i (by grind [hW]);dsimp only;refine ai (qS (nj _) aa (rK aa)) (ai (qS (nj _) ab (rK ab)) ?_);dsimp only;have n:(if br (b<0)=bq then-(0:Z) else 0)=0:=aa;rw[n];have r:(if(!(br (b<0)==br (a<0)))=bq then-(e.natAbs:Z) else(e.natAbs:Z))=e:=by
  by_cases B:e=0
  ·omega
  rcases ih a 0 with s|s
  ·rcases ih e 0 with c|c
   ·grind
   grind
  rcases ih e 0 with c|c
  ·have:b<0:=(by grind);rw[aF this,aA (aa:¬a<0)];simp;omega
  grind
 rw[r];refine ai (y:=((bp,([],())),(bp,([],())),aN e,aN 0,())) ?_ bn;refine ai (j6 (z:=0) ab) ?_;rfl
def Gc {a q:Z} (d:aO a.natAbs<=3000000) (f:aO e.natAbs<=3000000) (b:e≠0) (c:a=q*e):Al (aN a,aN e,())=Y (aN q,bq,()):=by unfold Al;refine ai (aep d f b c) ?_;dsimp only;refine ai (j6 (z:=0) ab) ?_;rfl
theorem R1 {c:Z} (g:aO e.natAbs<=3000000) (h:aO c.natAbs<=3000000):D0 (aN e,aN c,())=Y (aN (amH e c),()):=by
 unfold D0;refine ai (Bx g) (ai (Bx h) ?_);refine bO.1 ?_;dsimp only;refine bE (P:=λm=>m=((bp,([],())),aN (amH e c),())) ?_ (by grind [bu]);refine akn (λd=>∃b a:X,d=((bp,([],())),aN (b:Z),aN (a:Z),())/\Nat.gcd b a=amH e c/\aO b<=3000000/\aO a<=3000000) (λd=>(hm d.2.2.1).toNat) ⟨e.natAbs,c.natAbs,bn,bn,g,h⟩ ?_;rintro _ ⟨b,a,rfl,j,n,f⟩;dsimp only;refine bz (j6 (z:=(a:Z)) (by grind)) ?_;dsimp only;by_cases i:a=0
 ·subst i;rw[fL,show fv ((0:X):Z)=0 from rfl,aF bn,aW (by rfl)];grind [Nat.gcd_zero_right,bu]
 have l:fv (a:Z)≠0:=(by simp_all [au,fv]);rw[fL,aA l,aZ (by rfl)];refine bz (aeq (x:=(b:Z)) (y:=(a:Z)) (by grind) (by grind) aa aa) ?_;have k:b %a<a:=Nat.mod_lt _ aa;refine bu.2 ⟨⟨a,b %a,by rw[aog],?_,f,c4 (kK (Nat.le_of_lt k)) f⟩,?_⟩
 ·rw[<-j,apJ b a,Nat.gcd_rec a b,apJ]
 grind [aog,oa,akE]
abbrev GN:=oc×oc×bt
def fZ (a:Z×Z):GN:=(aN a.1,aN a.2,())
def m9 (b:X) (a:Z×Z):Prop:=0<a.2/\aO a.1.natAbs<=b/\aO a.2.natAbs<=b
def eM (a:Z×Z):Rat:=(a.1:Rat)/(a.2:Rat)
def we (b:e≠0):(e:Rat)≠0:=λa=>b (aot.1 (a.trans (by rfl)))
theorem R0 {num den:Z} {B:X} (h:B<=3000000) (v:aO num.natAbs<=B) (o:aO den.natAbs<=B) (n:den≠0):∃k,Au (aN num,aN den,())=Y (fZ k,())/\m9 B k/\eM k=(num:Rat)/(den:Rat):=by
 obtain⟨c,i⟩:=Int.gcd_dvd_left num den;obtain⟨a,f⟩:=Int.gcd_dvd_right num den;have w:(amH num den:Z)≠0:=(by grind);generalize p:amH num den=b at*;have j:aO b<=B:=(by refine c4 (kK ?_) o;have d:=b6 Int.natAbs f;rw[o4,Cg] at d;exact Nat.le_of_dvd aa ⟨_,d⟩);have t:∀{l e:Z},l=(b:Z)*e->aO l.natAbs<=B->aO e.natAbs<=B:=λ{l e} d u=>(by refine c4 (kK ?_) u;rw[d,o4];have:1*e.natAbs<=(b:Z).natAbs*e.natAbs:=iY _ aa;omega);have m:a≠0:=λd=>n (by rw[f,d,alT]);have r:(c:Rat)/(a:Rat)=(num:Rat)/(den:Rat):=(by have:=we m;have:=we n;have:=we w;have ao:(num:Rat)=(b:Z)*c:=(by simp_all);have x:(den:Rat)=(b:Z)*a:=(by simp_all);grind);unfold Au;by_cases z:den<0
 ·refine⟨(-c,-a),?_,⟨by
   grind [alS,ak1],by simp_all,by simp_all⟩,?_⟩
  ·refine ai (R1 aa aa) ?_;rw[p];refine ai (y:=(((bp,([],())),((bp,([],())),())),aN (-(b:Z)),())) ?_ ?_
   ·refine ai (j6 aa) ?_;dsimp only;have:fv den<0:=(by simp_all [cc,b8,fv]);rw[aZ (aF this)];refine ai (KP (by simpa using Nat.le_trans j h)) rfl
   dsimp only;have g:aO (-(b:Z)).natAbs<=3000000:=(by rw[alW];simpa using Nat.le_trans j h);refine ai (Gc (q:=-c) aa g aa (by rw[i,apK,akF])) (ai (Gc (q:=-a) aa g aa (by rw[f,apK,akF])) ?_);rfl
  rw[<-r];show((-c:Z):Rat)/((-a:Z):Rat)=_;have:=we m;rw[apL,apL];grind
 refine⟨(c,a),?_,⟨by
  show 0<a;rcases ih 0 a with s|s
  ·exact s
  have:=lx (aa:(0:Z)<=(b:Z)) (aa:0<=-a);grind,t i v,t f o⟩,r⟩
 refine ai (R1 aa aa) ?_;rw[p];refine ai (y:=(((bp,([],())),((bp,([],())),())),aN (b:Z),())) ?_ ?_
 ·refine ai (j6 aa) ?_;simp_all [aW,aA,au,fv]
 dsimp only;have g:aO (b:Z).natAbs<=3000000:=(by simpa using Nat.le_trans j h);refine ai (Gc (q:=c) aa g aa (by rw[i,akF])) (ai (Gc (q:=a) aa g aa (by rw[f,akF])) ?_);rfl
theorem ad7 {b c a:Rat} (d:g≠0) (e:k≠0) (f:l≠0) (h:a≠0):b*c*a/(g*k*l)=(b/g)*(c/k)/(l/a):=by grind
theorem ad8 {a:Rat} (c:k≠0) (b:g≠0):(a*g-l*k)/(k*g)=a/k-l/g:=by grind
theorem ad9:k-l/g=k-1/g*l:=by grind
theorem RG {x y z w:Z×Z} {A B C:X} (u:m9 A x) (v:m9 B y) (D:m9 B z) (s:m9 B w) (t:w.1≠0) (O:A+3*B+1<=C) (r:C<=3000000):∃c,ta (fZ x,fZ y,fZ z,fZ w,())=Y (fZ c,())/\m9 C c/\eM c=eM x-1/eM w*(eM y*eM z):=by
 obtain⟨h,K,i⟩:=u;obtain⟨j,k,l⟩:=v;obtain⟨m,n,o⟩:=D;obtain⟨H,I,J⟩:=s;have h:x.2≠0:=aa;have j:y.2≠0:=aa;have m:z.2≠0:=aa;have H:w.2≠0:=aa;have b:∀{d e:Z} {f g:X},aO d.natAbs<=f->aO e.natAbs<=g->aO (d*e).natAbs<=f+g:=λM N=>(by simp_all [xi,o4]);have T:=b (b k n) J;have U:=b (b l o) I;obtain⟨a,p,⟨f2,q,f4⟩,f5⟩:=R0 (num:=y.1*z.1*w.2) (den:=y.2*z.2*w.1) (B:=3*B) aa aa aa (amE (amE j m) t);have f2:a.2≠0:=aa;have G:=b K f4;have Q:=b q i;have R:aO (x.1*a.2-a.1*x.2).natAbs<=A+3*B+1:=(by refine c4 (kK ?_) (Vy (A+3*B) (x:=(x.1*a.2).natAbs) (y:=(a.1*x.2).natAbs) G aa);omega);have S:=b i f4;obtain⟨c,E,F,P⟩:=R0 (num:=x.1*a.2-a.1*x.2) (den:=x.2*a.2) (B:=C) r aa aa (amE h f2);refine⟨c,?_,F,?_⟩
 ·unfold ta;have ao:=b k n;have L:=b l o;refine ai (tZ (x:=y.1) (y:=z.1) aa aa) (ai (tZ (x:=y.1*z.1) (y:=w.2) aa aa) (ai (tZ (x:=y.2) (y:=z.2) aa aa) (ai (tZ (x:=y.2*z.2) (y:=w.1) aa aa) (ai p ?_))));refine ai (tZ (x:=x.1) (y:=a.2) aa aa) (ai (tZ (x:=a.1) (y:=x.2) aa aa) (ai (Si aa aa) (ai (tZ (x:=x.2) (y:=a.2) aa aa) (ai E bn))))
 simp_all [we,sJ,ad7,apM,ad8,ad9,ao,eM]
section
section
variable {n:X}
def aeC (i:n<=1000) (g:∀a b,a<n->b<n->aO (h a b).natAbs<=3000000):Eh (cU n n (λa b=>aN (h a b)),())=Y (cU n n (λa b=>fZ (h a b,1)),()):=by
 unfold Eh;refine bO.1 ?_;dsimp only;refine bE (P:=λd=>d=(cU n n (λa b=>fZ (h a b,1)),())) ?_ (by rintro _ rfl;exact bu.2 bn);refine bQ n (λa e=>e=((a:Z),cU a n (λa b=>fZ (h a b,1)),())) rfl ?_ ?_
 ·rintro a _ c rfl;dsimp only;rw[a7,nv,aZ (aF (aa:(a:Z)<(n:Z))),bc aa];refine bE (P:=λd=>d=(cU a n (λa b=>fZ (h a b,1)),az n (λb=>fZ (h a b,1)),())) ?_ ?_
  ·refine bQ n (λb e=>e=((b:Z),cU a n (λa b=>fZ (h a b,1)),az b (λb=>fZ (h a b,1)),())) rfl ?_ ?_
   ·rintro b _ f rfl;dsimp only;refine bz (mq c) ?_;rw[a7,cN,aZ (aF (aa:(b:Z)<(n:Z))),bc aa];refine bz (mq c) (bz (gg (gR f)) ?_);refine bz (r9 (g a b c f)) (bz (F9 ab ab) ?_);dsimp only;rw[eS (by rw[cN];simp;omega),bK];refine bu.2 ?_;show _=_;rw[nT];rfl
   rintro _ rfl;dsimp only;refine bz (mq c) ?_;rw[a7,cN,aW (aA (aa:¬((n:Z)<(n:Z))))];exact bu.2 bn
  rintro _ rfl;dsimp only;rw[eS (by rw[nv];simp;omega),bK];refine bu.2 ?_;show _=_;unfold cU;rw[nT]
 rintro _ rfl;dsimp only;rw[a7,nv,aW (aA (aa:¬((n:Z)<(n:Z))))];exact bu.2 bn
theorem Su {a:Z×Z} (b:aO a.1.natAbs<=3000000):Av (fZ a,())=Y (br (a.1=0),()):=by
 unfold Av;refine ai (j6 b) ?_;dsimp only;congr 2;rw[fY,aj8];unfold fv;split
 ·simp_all
 split<;>simp_all
def JR (b:a<d.length):ar (d.map λc:X=>(c:Z)) (a:Z)=Y (d[a]:Z):=by rw[eR (by rw[eP];exact b),m6]
def zj (e:X->X->Z×Z) (b:aj5) (f g:Z):Prop:=
 (∃a∈b,f=(a:Z)/\g=(a:Z)/\(e a a).1≠0)\/
 (∃c∈b,∃d∈b,c≠d/\f=(c:Z)/\g=(d:Z)/\(e c d).1≠0/\∀a∈b,(e a a).1=0)\/
 (f=-1/\g=-1/\(∀a∈b,(e a a).1=0)/\∀c d (h:c<b.length) (i:d<c),(e b[c] b[d]).1=0)
def aeL {T:X->X->Z×Z} {l:aj5} (I:n<=1000) (y:∀m∈l,m<n) (E:l.Nodup) (H:l.length<=1000) (A:∀a c,a<n->c<n->aO (T a c).1.natAbs<=3000000):ae (Ei (cU n n (λa c=>fZ (T a c)),l.map (λz:X=>(z:Z)),())) λo=>zj T l o.1 o.2.1:=by
 unfold Ei;dsimp only;have u:al (l.map (λz:X=>(z:Z)))=(l.length:Z):=(by rw[a7,cg]);refine bE (P:=λo=>match o with|.inl _=>∀m∈l,(T m m).1=0|.inr d=>zj T l d.1 d.2.1) ?_ ?_
 ·refine bQ l.length (λa t=>t=((a:Z),())/\∀h (s:h<l.length),h<a->(T l[h] l[h]).1=0) ⟨bn,λh _ r=>absurd r (sH _)⟩ ?_ ?_
  ·rintro a _ e ⟨rfl,q⟩;have j:=y _ (b3 e);dsimp only;rw[u,aZ (aF (aa:(a:Z)<(l.length:Z))),bc aa,JR e];simp only[bK];refine bz (mq j) (bz (gg (gR j)) (bz (Su (A _ _ j j)) ?_));dsimp only;by_cases i:(T l[a] l[a]).1=0
   ·rw[aF i,aW (by rfl)];refine bu.2 ⟨bn,λh s J=>?_⟩;by_cases p:h=a
    ·subst p;exact i
    exact q h s aa
   rw[aA i,aZ (by rfl)];exact bu.2 (.inl ⟨l[a],cF e,bn,bn,i⟩)
  rintro _ ⟨rfl,q⟩;dsimp only;rw[u,aW (aA (aa:¬((l.length:Z)<(l.length:Z))))];refine bu.2 ?_;intro m j;obtain⟨h,s,rfl⟩:=ak0.1 j;exact q h s s
 rintro(d|d) g
 rotate_left
 ·exact bu.2 g
 have C:∀m∈l,(T m m).1=0:=g;dsimp only;refine bE (P:=λo=>match o with|.inl _=>∀a c (e:a<l.length) (w:c<a),(T l[a] l[c]).1=0|.inr d=>zj T l d.1 d.2.1) ?_ ?_
 ·refine bQ l.length (λa t=>t=((a:Z),())/\∀k b (B:k<l.length) (f:b<k),k<a->(T l[k] l[b]).1=0) ⟨bn,λk b _ _ r=>absurd r (sH _)⟩ ?_ ?_
  ·rintro a _ e ⟨rfl,q⟩;have j:=y _ (b3 e);dsimp only;rw[u,aZ (aF (aa:(a:Z)<(l.length:Z))),bc aa];refine bE (P:=λo=>match o with|.inl _=>∀b (f:b<a),(T l[a] l[b]).1=0|.inr (.inl _)=>b4|.inr (.inr (.inl _))=>b4|.inr (.inr (.inr d))=>zj T l d.1 d.2.1) ?_ ?_
   ·refine bQ a (λc t=>t=((c:Z),())/\∀b (f:b<a),b<c->(T l[a] l[b]).1=0) ⟨bn,λb _ r=>absurd r (sH _)⟩ ?_ ?_
    ·rintro c _ w ⟨rfl,v⟩;have x:c<l.length:=aa;have D:=y _ (b3 x);dsimp only;rw[aZ (aF (aa:(c:Z)<(a:Z))),bc aa,JR e,JR x];simp only[bK];refine bz (mq j) ?_;refine bz (gg (gR D)) (bz (Su (A _ _ j D)) ?_);dsimp only;by_cases i:(T l[a] l[c]).1=0
     ·rw[aF i,aW (by rfl)];refine bu.2 ⟨bn,λb f G=>?_⟩;by_cases p:b=c
      ·subst p;exact i
      exact v b f aa
     rw[aA i,aZ (by rfl)];refine bu.2 ?_;show zj T l _ _;exact .inr (.inl ⟨l[a],cF e,l[c],cF x,λp=>absurd ((p3 E).1 p) aa,bn,bn,i,C⟩)
    rintro _ ⟨rfl,v⟩;dsimp only;rw[aW (aA (aa:¬((a:Z)<(a:Z))))];exact bu.2 λb f=>v b f f
   rintro(d|d|d|d) g
   ·refine bu.2 ⟨bn,λk b B f F=>?_⟩;by_cases p:k=a
    ·subst p;exact g b f
    exact q k b B f aa
   ·exact g.elim
   ·exact g.elim
   exact bu.2 g
  rintro _ ⟨rfl,q⟩;dsimp only;rw[u,aW (aA (aa:¬((l.length:Z)<(l.length:Z))))];exact bu.2 λa c e w=>q a c e w e
 rintro(d|d) g
 ·exact bu.2 (.inr (.inr ⟨bn,bn,C,g⟩))
 exact bu.2 g
end
end
section
theorem yH {e:Type} {n:X} {E:X->X->e} (f:a<i) (g:b<n):(a1 (cU i n E) a λc=>a1 c b λd=>Y d)=Y (E a b):=by simp_all [hC,gR,cU]
theorem m9.mono {B:X} {p:Z×Z} (b:m9 a p) (c:a<=B):m9 B p:=⟨b.1,c4 b.2.1 c,c4 b.2.2 c⟩
theorem aga (E:X->X->Z×Z) (c d:X) (e:Z×Z):gm (λa b=>fZ (E a b)) c d (fZ e)=λa b=>fZ (gm E c d e a b):=by grind [gm]
def qL (T:X->X->Z×Z) (p q a b:X):Rat:=
 if p=q then eM (T a b)-1/eM (T p q)*(eM (T a p)*eM (T q b)) else eM (T a b)-1/eM (T p q)*(eM (T a p)*eM (T q b))-1/eM (T p q)*(eM (T a q)*eM (T p b))
theorem Qh {T:X->X->Z×Z} {l:aj5} (g:∀c∈l,∀d∈l,eM (T c d)=eM (T d c)) {p q:X} (e:p∈l) (f:q∈l) (h:a∈l) (i:b∈l):qL T p q a b=qL T p q b a:=by unfold qL;grind
def qx (S:aj5) (c f d e:X):Prop:=∃a b,b<=a/\(a<c\/(a=c/\b<f))/\((S[a]?=Y d/\S[b]?=Y e)\/(S[a]?=Y e/\S[b]?=Y d))
section
variable {n:X} {T:X->X->Z×Z} {S l:aj5} {p q B C:X}
theorem WE (k:S.Nodup) (i:a<S.length) (j:b<=a):¬qx S a b S[a] (S[b]'(by omega)):=by
 rintro⟨e,f,g,h,⟨c,d⟩|⟨c,d⟩⟩
 ·grind [al0,akU]
 grind [akU,al0]
theorem Io {f:X} (c:qx S i f a b):a∈S/\b∈S:=by
 obtain⟨g,h,_,_,⟨d,e⟩|⟨d,e⟩⟩:=c
 ·grind
 grind
theorem NN {x y:X} (k:a<S.length) (h:b<=a):qx S a (b+1) x y↔qx S a b x y\/(x=S[a]/\y=S[b]'(by omega))\/(x=S[b]'(by omega)/\y=S[a]):=by
 have ao:S[a]?=Y S[a]:=bi k;have g:S[b]?=Y (S[b]'(by omega)):=bi aa
 constructor
 ·rintro⟨c,d,e,j,f⟩;by_cases i:c<a\/(c=a/\d<b)
  ·exact .inl ⟨c,d,e,i,f⟩
  grind
 rintro(⟨c,d,e,j,f⟩|⟨rfl,rfl⟩|⟨rfl,rfl⟩)
 ·exact⟨c,d,e,aa,f⟩
 ·exact⟨a,b,h,.inr ⟨bn,aa⟩,.inl ⟨ao,g⟩⟩
 exact⟨a,b,h,.inr ⟨bn,aa⟩,.inr ⟨ao,g⟩⟩
def NO:qx S a (a+1) b i↔qx S (a+1) 0 b i:=by
 constructor
 ·rintro⟨c,d,e,g,f⟩;exact⟨c,d,e,aa,f⟩
 rintro⟨c,d,e,g,f⟩;exact⟨c,d,e,aa,f⟩
def WD:qx S S.length 0 a b↔a∈S/\b∈S:=by
 refine⟨Io,?_⟩;rintro⟨h,i⟩;obtain⟨c,f,rfl⟩:=g1.1 h;obtain⟨d,g,rfl⟩:=g1.1 i;rcases Nat.le_total d c with e|e
 ·exact⟨c,d,e,.inl f,.inl ⟨bi f,bi g⟩⟩
 exact⟨d,c,e,.inl g,.inr ⟨bi g,bi f⟩⟩
def Gs (n:X) (T:X->X->Z×Z) (S:aj5) (p q C d e:X) (f:bm (bm GN)):Prop:=∃c:X->X->Z×Z,f=cU n n (λa b=>fZ (c a b))/\(∀a b,qx S d e a b->m9 C (c a b)/\eM (c a b)=qL T p q a b)/\∀a b,¬qx S d e a b->c a b=T a b
theorem age (mo:n<=1000) (u:∀a∈S,a<n/\a≠p/\a≠q/\a∈l) (d2:S.Nodup) (k:p<n) (m:q<n) (mp:p∈l) (mz:q∈l) (nd:∀c∈l,∀d∈l,eM (T c d)=eM (T d c)) (r:∀a b,a<n->b<n->m9 B (T a b)) (ds:(T p q).1≠0) (go:S≠[]->4*B+1<=C/\(p≠q->7*B+2<=C)/\C<=3000000):ae (loop (σ:=(Z×h6×aL×jC×bt)) (ρ:=(h6×aL×bt)) (λ(K,cs,bx,fr,_)=>
 bif br (K<al bx) then
 (loop (σ:=(Z×h6×aL×jC×bt)) (ρ:=(h6×aL×jC×bt)) (λ(an,e,E,t,_)=>
  bif br (an<=K) then
 bB (α:=(h6×aL×jC×bt)) (
 rd E K λF=>
 rd E an λG=>
 (ba e.length F).bind λd7=>
 ((a1 e d7 λf6=>Y f6).bind λf7=>ba f7.length G).bind λhw=>
 (a1 e d7 λf8=>a1 f8 hw λf9=>Y f9).bind λi8=>
 (ba e.length F).bind λd8=>
 ((a1 e d8 λgc=>Y gc).bind λge=>ba ge.length (p:Z)).bind λib=>
 (a1 e d8 λgf=>a1 gf ib λgi=>Y gi).bind λjp=>
 (ba e.length (q:Z)).bind λd4=>
 ((a1 e d4 λfz=>Y fz).bind λfT=>ba fT.length G).bind λhv=>
 (a1 e d4 λf0=>a1 f0 hv λf1=>Y f1).bind λi3=>
 (ta (i8,jp,i3,t,())).bind λ(d9,_)=>
 bB (α:=(h6×aL×jC×jC×bt)) (bif (p:Z)!=(q:Z) then
 (ba e.length F).bind λv=>
 ((a1 e v λN=>Y N).bind λO=>ba O.length (q:Z)).bind λap=>
 (a1 e v λQ=>a1 Q ap λR=>Y R).bind λci=>
 (ba e.length (p:Z)).bind λD=>
 ((a1 e D λU=>Y U).bind λV=>ba V.length G).bind λav=>
 (a1 e D λad=>a1 ad av λam=>Y am).bind λco=>
 (ta (d9,ci,co,t,())).bind λ(bl,_)=>
 Y (e,E,t,bl,()) else
 Y (e,E,t,d9,())) λ(H,ii,fl,ek,_)=>
 (ba H.length F).bind λa0=>
 ((a1 H a0 λf2=>Y f2).bind λf3=>ba f3.length G).bind λd5=>
 (a1 H a0 λc2=>(a1 c2 d5 λ_=>Y (c2.set d5 ek)).map λkd=>H.set a0 kd).bind λM=>
 (ba M.length G).bind λa3=>
 ((a1 M a3 λf4=>Y f4).bind λf5=>ba f5.length F).bind λd6=>
 (a1 M a3 λdg=>(a1 dg d6 λ_=>Y (dg.set d6 ek)).map λkg=>M.set a3 kg).bind λlb=>
 Y (lb,ii,fl,())) λ(eq,io,fn,_)=>
 Y (.inl (aM an,eq,io,fn,())) else
 Y (.inr (e,E,t,()))) (0,cs,bx,fr,())).bind λ(ex,is,fp,_)=>
 Y (.inl (aM K,ex,is,fp,())) else
 Y (.inr (cs,bx,()))) (0,cU n n (λa b=>fZ (T a b)),S.map (λa:X=>(a:Z)),fZ (T p q),()))
 λa4=>∃f,a4=(f,S.map (λa:X=>(a:Z)),())/\Gs n T S p q C S.length 0 f:=by
 have lt:S.length<=n:=(by have:=d2.length_le_of_subset (l₂:=bJ n) λa i=>gD.2 (u a i).1;grind);refine bQ S.length (λc ce=>∃f,ce=((c:Z),f,S.map (λa:X=>(a:Z)),fZ (T p q),())/\Gs n T S p q C c 0 f) ⟨_,bn,T,bn,λa b g=>by
  obtain⟨f,le,d0,d1,lo⟩:=g;omega,λa b _=>rfl⟩ ?_ ?_
 ·rintro c _ J ⟨lc,rfl,gt⟩;obtain⟨lf,ft,lk⟩:=go (λc1=>by grind);obtain⟨i,nn,no,ne⟩:=u _ (b3 J);dsimp only;rw[a7,cg,aZ (aF (aa:(c:Z)<(S.length:Z))),bc aa];refine bE (P:=λa4=>∃f,a4=(f,S.map (λa:X=>(a:Z)),fZ (T p q),())/\Gs n T S p q C c (c+1) f) ?_ ?_
  ·refine bQ (c+1) (λd ce=>∃f,ce=((d:Z),f,S.map (λa:X=>(a:Z)),fZ (T p q),())/\Gs n T S p q C c d f) ⟨_,bn,gt⟩ ?_ ?_
   ·rintro d _ mc ⟨f,rfl,h,rfl,hc,d3⟩;have hi:d<S.length:=aa;obtain⟨j,n7,of,nx⟩:=u _ (b3 hi);dsimp only;rw[aZ (aF (aa:(d:Z)<=(c:Z))),bc aa,je (by grind),je (by grind),anr,anr];have hr:p∉S:=λg=>(u p g).2.1 bn;have hs:q∉S:=λg=>(u q g).2.2.1 bn;have ix:h S[c] S[d]=T S[c] S[d]:=d3 _ _ (WE d2 J aa);have el:∀a b,a∉S\/b∉S->h a b=T a b:=λa b g=>d3 _ _ λI=>g.elim (λo=>o (Io I).1) (λo=>o (Io I).2);have fs:=r _ _ i j;have cv:=r _ _ k m;obtain⟨L,i0,em,ok⟩:=RG (x:=T S[c] S[d]) (y:=T S[c] p) (z:=T q S[d]) (w:=T p q) (A:=B) (B:=B) (C:=4*B+1) fs (r _ _ i k) (r _ _ m j) cv ds aa aa;have ic:∃s,m9 C s/\eM s=qL T p q S[c] S[d]/\(bif (p:Z)!=(q:Z) then
     (ba (cU n n (λa b=>fZ (h a b))).length (S[c]:Z)).bind λv=>
     ((a1 (cU n n (λa b=>fZ (h a b))) v λN=>Y N).bind λO=>ba O.length (q:Z)).bind λap=>
     (a1 (cU n n (λa b=>fZ (h a b))) v λQ=>a1 Q ap λR=>Y R).bind λci=>
     (ba (cU n n (λa b=>fZ (h a b))).length (p:Z)).bind λD=>
     ((a1 (cU n n (λa b=>fZ (h a b))) D λU=>Y U).bind λV=>ba V.length (S[d]:Z)).bind λav=>
     (a1 (cU n n (λa b=>fZ (h a b))) D λad=>a1 ad av λam=>Y am).bind λco=>
     (ta (fZ L,ci,co,fZ (T p q),())).bind λ(bl,_)=>
     Y (cU n n (λa b=>fZ (h a b)),S.map (λa:X=>(a:Z)),fZ (T p q),bl,()) else
     Y (cU n n (λa b=>fZ (h a b)),S.map (λa:X=>(a:Z)),fZ (T p q),fZ L,()))=Y (cU n n (λa b=>fZ (h a b)),S.map (λa:X=>(a:Z)),fZ (T p q),fZ s,()):=by
     by_cases I:p=q
     ·refine⟨L,em.mono aa,?_,?_⟩
      ·simp_all [aw,qL]
      grind
     have ll:=ft I;obtain⟨id,ol,i2,eC⟩:=RG (x:=L) (y:=T S[c] q) (z:=T p S[d]) (w:=T p q) (A:=4*B+1) (B:=B) (C:=C) em (r _ _ i m) (r _ _ k j) cv ds aa aa;refine⟨id,i2,?_,?_⟩
     ·simp_all [au,qL]
     rw[fL,aA (aa:¬(p:Z)=(q:Z)),aZ (by rfl)];refine ai (nt i) (ai (nu i m) (ai (yH i m) (ai (nt k) (ai (nu k j) (ai (yH k j) ?_)))));grind
    obtain⟨s,v1,fe,i1⟩:=ic;refine bz (y:=(cU n n (λa b=>fZ (gm (gm h S[c] S[d] s) S[d] S[c] s a b)),S.map (λa:X=>(a:Z)),fZ (T p q),())) ?_ ?_
    ·refine ai (nt i) (ai (nu i j) (ai (yH i j) (ai (nt i) (ai (nu i k) (ai (yH i k) (ai (nt m) (ai (nu m j) (ai (yH m j) ?_))))))));rw[ix,el _ _ (.inr hr),el _ _ (.inl hs)];refine ai i0 (ai i1 ?_);simp_all [aga,ai,nt,nu,wm]
    refine bu.2 ⟨_,bn,_,bn,λa b g=>?_,λa b g=>?_⟩
    ·unfold gm;by_cases dl:a=S[d]/\b=S[c]
     ·rw[aw dl];grind [Qh]
     rw[au dl];by_cases gl:a=S[c]/\b=S[d]
     ·grind
     rw[au gl];refine hc a b ?_;rcases(NN J aa).1 g with o|o|o
     ·exact o
     ·omega
     omega
    have l2:=mt (NN (x:=a) (y:=b) J (aa:d<=c)).2 g;simp_all [au,gm]
   rintro _ ⟨f,rfl,gs⟩;dsimp only;rw[aW (aA (aa:¬(((c+1:X):Z)<=(c:Z))))];grind [bu]
  rintro _ ⟨f,rfl,h,c1,d0,d1⟩;refine bu.2 ⟨f,bn,h,c1,λa b g=>d0 a b (NO.2 g),λa b g=>d1 a b (mt NO.1 g)⟩
 rintro _ ⟨f,rfl,gs⟩;dsimp only;rw[a7,cg,aW (aA (aa:¬((S.length:Z)<(S.length:Z))))];grind [bu]
end
end
theorem O1 (f:g≠0):(0<1/g↔0<g)/\(1/g<0↔g<0):=by
 have e:1/g*g=1:=(by grind);have:=yN e ab;rcases(show 0<g\/g<0 by grind) with a|a
 ·obtain⟨c,d⟩:=this.1 a;constructor
  ·exact⟨λ_=>a,λ_=>c.2 ab⟩
  exact⟨λb=>absurd (d.1 b) ab,λb=>by grind⟩
 obtain⟨c,d⟩:=this.2 a;constructor
 ·exact⟨λb=>absurd (c.1 b) ab,λb=>by grind⟩
 exact⟨λ_=>a,λ_=>d.2 ab⟩
theorem yA {p:Z×Z} (l:0<p.2):(eM p<0↔p.1<0)/\(0<eM p↔0<p.1)/\(eM p=0↔p.1=0):=by
 have m:(0:Rat)<(p.2:Rat):=amI.2 l;have f:eM p*(p.2:Rat)=(p.1:Rat):=(by unfold eM;grind);have j:(p.1:Rat)<0↔p.1<0:=(by have:=apN (a:=p.1) (b:=0);simpa using this);have k:(0:Rat)<(p.1:Rat)↔0<p.1:=amI;have g:(p.1:Rat)=0↔p.1=0:=(by have:=aot (a:=p.1) (b:=0);simpa using this);by_cases d:p.1=0
 ·have e:=g.2 d;rw[e] at f;have:eM p=0:=(sK.1 f).resolve_right (by grind);rw[this,d];exact⟨ac,ac,ac⟩
 have e:(p.1:Rat)≠0:=λc=>d (g.1 c);obtain⟨h,i⟩:=(yN f e).1 m;refine⟨i.trans j,h.trans k,λc=>?_,λc=>absurd c d⟩;rw[c] at f;exact absurd (by grind) e
def jD (a b:X):X:=4^b*(a+1)-1
def ML (a b:X):jD a (b+1)=4*jD a b+3:=by unfold jD;have:0<4^b*(a+1):=Nat.mul_pos (Nat.pow_pos ab) aa;rw[uG,Nat.mul_right_comm];omega
def xc (c:i<=b):jD a i<=jD a b:=Nat.sub_le_sub_right (iY _ (sI ab c)) 1
def CE (a b:X):a<=jD a b:=by have:jD a 0<=jD a b:=xc (eU _);simpa[jD] using this
structure LU (TP:X->X->Rat) (n B:X) (T:X->X->Z×Z) (l:aj5) (neg pos:X):Prop where
 nd:l.Nodup
 lt:∀k∈l,k<n
 Ld:∀i∈l,∀j∈l,eM (T i j)=eM (T j i)
 b:∀x y,x<n->y<n->m9 (jD B (n-l.length)) (T x y)
 c:neg+pos+l.length=n
 el:∀G2,m2 (λi j=>eM (T i j)) l G2->∃R,m2 TP (bJ n) R/\kV R=pos+kV G2/\li R=neg+li G2
def agx:eO b (eO a d)=d.filter λc=>br (c≠a)&&br (c≠b):=by unfold eO;rw[zb];refine p0 λc _=>Bool.and_comm _ _
def aey {f:bm (bm GN)} (D:d.length<=1000):loop (σ:=(Z×h6×aL×aL×bt)) (ρ:=(h6×aL×bt)) (λ(g,j,h,m,_)=>
 bif br (g<al h) then
 bB (α:=(h6×aL×aL×bt)) (
 bB (α:=(bA×h6×aL×aL×bt)) (
 rd h g λA=>
  bif (A !=(a:Z))==bq then rd h g λB=>
 Y ((B !=(b:Z)),j,h,m,()) else Y (bp,j,h,m,())) λ(z,o,l,n,_)=>
  bif z then
 rd l g λt=>
 (cI (n.length+([t]).length)).bind λ_=>
 Y (o,l,(n++[t]),()) else
 Y (o,l,n,())) λ(u,v,w,_)=>
 Y (.inl (aM g,u,v,w,())) else
 Y (.inr (j,m,()))) (0,f,d.map (λc:X=>(c:Z)),[],())=Y (f,(d.filter λc=>br (c≠a)&&br (c≠b)).map (λc:X=>(c:Z)),()):=by
 refine bO.1 ?_;refine bQ d.length (λe x=>x=((e:Z),f,d.map (λc:X=>(c:Z)),((d.take e).filter λc=>br (c≠a)&&br (c≠b)).map (λc:X=>(c:Z)),())) rfl ?_ ?_
 ·rintro e _ i rfl;dsimp only;rw[a7,cg,aZ (aF (aa:(e:Z)<(d.length:Z))),bc aa];have C:((d.take e).filter λc=>br (c≠a)&&br (c≠b)).length<=1000:=cw (aky _ _) (by rw[akv];omega);refine bz (y:=(f,d.map (λc:X=>(c:Z)),((d.take (e+1)).filter λc=>br (c≠a)&&br (c≠b)).map (λc:X=>(c:Z)),())) ?_ (bu.2 bn);refine ai (y:=(br (d[e]≠a)&&br (d[e]≠b),f,d.map (λc:X=>(c:Z)),((d.take e).filter λc=>br (c≠a)&&br (c≠b)).map (λc:X=>(c:Z)),())) ?_ ?_
  ·rw[je (by rw[eP];exact i),m6,fL];by_cases p:d[e]=a
   ·rw[aF (aa:(d[e]:Z)=(a:Z)),aW (by rfl)];simp[p]
   rw[aA (aa:¬(d[e]:Z)=(a:Z)),aZ (by rfl),je (by rw[eP];exact i),m6,fL];by_cases q:d[e]=b
   ·rw[aF (aa:(d[e]:Z)=(b:Z))];simp[q]
   rw[aA (aa:¬(d[e]:Z)=(b:Z))];simp[p,q]
  dsimp only;rw[nA i,List.filter_append];cases s:(br (d[e]≠a)&&br (d[e]≠b)) with
  |true=>
   have ao:([d[e]]:aj5).filter (λc=>br (c≠a)&&br (c≠b))=[d[e]]:=mA.2 λc k=>(by rw[gp.1 k];exact s);rw[bG,je (by rw[eP];exact i),m6,eS (by rw[eP,rj];omega),aE,ao,jR];rfl
  |false=>
   have ao:([d[e]]:aj5).filter (λc=>br (c≠a)&&br (c≠b))=[]:=Ch.2 λc k=>(by rw[gp.1 k];exactλr=>by rw[s] at r;cases r);rw[bP,ao,oq]
 rintro _ rfl;dsimp only;rw[a7,cg,aW (aA (aa:¬((d.length:Z)<(d.length:Z)))),cB];exact bu.2 bn
theorem Rt (c:X->X->Rat) (b:aj5):kV (b.map λa=>((0:Rat),c a))=0/\li (b.map λa=>((0:Rat),c a))=0:=by
 induction b with
 |nil=>exact⟨bn,bn⟩
 |cons a b d=>
  simp_all [au,gW,tV,tN]
theorem KB (a:Z):eM (a,1)=(a:Rat):=by show(a:Rat)/((1:Z):Rat)=_;grind
theorem aeD {a:X->X->Z} {n B:X} (f3:n<=64) (c1:1<=B) (a4:∀d f,d<n->f<n->aO (a d f).natAbs<=B) (d7:∀d f,d<n->f<n->a d f=a f d) (V:jD B (n-1)<=3000000):ae (At (cU n n (λd f=>aN (a d f)),())) λL=>∃u,m2 (λd f=>(a d f:Rat)) (bJ n) u/\li u+kV u<=n/\L=((li u:Z),((n-li u-kV u:X):Z),(kV u:Z),()):=by
 have c2:B<=3000000:=cw (CE B _) V;unfold At;refine bz (aeC aa λd f o s=>cw (a4 d f o s) c2) ?_;dsimp only;refine bE (P:=λL=>L=(cU n n (λd f=>fZ (a d f,1)),(bJ n).map (λg:X=>(g:Z)),())) ?_ ?_
 ·refine bQ n (λd M=>M=((d:Z),cU n n (λd f=>fZ (a d f,1)),(bJ d).map (λg:X=>(g:Z)),())) rfl ?_ ?_
  ·rintro d _ o rfl;dsimp only;rw[a7,nv,aZ (aF (aa:(d:Z)<(n:Z))),bc aa,eS (by grind),bK];grind [akD,bu]
  rintro _ rfl;dsimp only;rw[a7,nv,aW (aA (aa:¬((n:Z)<(n:Z))))];grind [bu]
 rintro _ rfl;dsimp only;refine bE (P:=λL=>∃(z pos:X) (i:aj5) (h:X->X->Z×Z),L=((z:Z),(pos:Z),i.map (λg:X=>(g:Z)),())/\LU (λd f=>(a d f:Rat)) n B h i z pos/\∀d∈i,∀f∈i,eM (h d f)=0) ?_ ?_
 ·refine akn (λM=>∃(z pos:X) (i:aj5) (h:X->X->Z×Z),M=((z:Z),(pos:Z),cU n n (λd f=>fZ (h d f)),i.map (λg:X=>(g:Z)),())/\LU (λd f=>(a d f:Rat)) n B h i z pos) (λM=>M.2.2.2.1.length) ⟨0,0,bJ n,λd f=>(a d f,1),bn,?_⟩ ?_
  ·refine⟨sE,λI R=>gD.1 R,λd o f s=>?_,λg m w D=>⟨(by decide:(0:Z)<1),c4 (a4 g m w D) (CE B _),c4 (show aO (1:Z).natAbs<=B from c4 ab c1) (CE B _)⟩,by grind,λan k=>⟨an,?_,aa,aa⟩⟩
   ·rw[KB,KB,d7 d f (gD.1 o) (gD.1 s)]
   grind [KB]
  rintro _ ⟨z,pos,i,h,rfl,k⟩;dsimp only;by_cases ap:i=[]
  ·subst ap;rw[aW (aA (show¬(al (([]:aj5).map (λg:X=>(g:Z)))>0) by grind))];grind [bu]
  have f1:0<i.length:=uz.2 ap;have d0:=k.c;have ds:jD B (n-i.length)<=3000000:=c4 (xc aa) V;have fz:B<=jD B (n-i.length):=CE B _;have ci:∀d f,d<n->f<n->aO (h d f).1.natAbs<=3000000:=λd f o s=>c4 (k.b d f o s).2.1 ds;rw[aZ (aF (show al (i.map (λg:X=>(g:Z)))>0 by grind))];refine bE (aeL (T:=h) (l:=i) aa k.lt k.nd aa ci) ?_;rintro⟨cs,d9,_⟩ d5;have d6:(cs=-1/\∀d∈i,∀f∈i,eM (h d f)=0)\/∃e j:X,cs=(e:Z)/\d9=(j:Z)/\e∈i/\j∈i/\(h e j).1≠0/\(e≠j->(h e e).1=0/\(h j j).1=0):=by
   rcases d5 with⟨I,R,ao,x,G⟩|⟨d,o,f,s,f0,ao,x,G,d1⟩|⟨ao,x,d1,f2⟩
   ·grind
   ·grind
   refine .inl ⟨ao,λd o f s=>?_⟩;have f9:∀g m,g∈i->m∈i->(h g m).1=0->eM (h g m)=0:=λg m w D F=>(yA (k.b g m (k.lt g w) (k.lt m D)).1).2.2.2 F;obtain⟨ek,f5,rfl⟩:=g1.1 o;obtain⟨em,f6,rfl⟩:=g1.1 s;rcases sG ek em with I|I|I
   ·rw[k.Ld _ o _ s];grind
   ·grind
   grind
  rcases d6 with⟨rfl,co⟩|⟨e,j,rfl,rfl,A,K,G,d3⟩
  ·dsimp only;rw[aZ (by rfl)];grind [bu]
  dsimp only;have v:=k.lt e A;have H:=k.lt j K;rw[aW (aA (aa:¬(e:Z)<0))];refine bz (aey aa) ?_;rw[<-agx];dsimp only;generalize O:eO j (eO e i)=r;have Q:∀g∈r,g<n/\g≠e/\g≠j/\g∈i:=λg w=>(by rw[<-O] at w;obtain⟨av,a0⟩:=mS.1 w;obtain⟨a3,cv⟩:=mS.1 av;exact⟨k.lt g a3,cv,a0,a3⟩);have ce:r.Nodup:=O▸vZ (vZ k.nd);have dl:r.length+(if e=j then 1 else 2)=i.length:=by
   rw[<-O];by_cases t:e=j
   ·subst t;rw[aw bn,GI (λd4=>(mS.1 d4).2 bn)];exact uj k.nd A
   rw[au t];have av:=uj k.nd A;have a0:=uj (p:=j) (vZ (p:=e) k.nd) (mS.2 ⟨K,λF=>t F.symm⟩);omega
  refine bz (y:=(((z+(if e=j then if(h e j).1<0 then 1 else 0 else 1):X):Z),((pos+(if e=j then if(h e j).1<0 then 0 else 1 else 1):X):Z),cU n n (λg m=>fZ (h g m)),r.map (λg:X=>(g:Z)),())) ?_ ?_
  ·by_cases t:e=j
   ·subst t;rw[fY,aF bn,aZ bn,aw bn,aw bn];refine ai (nt v) (ai (nu v v) (ai (y:=aN (h e e).1) ?_ ?_))
    ·unfold cU;rw[hC (gR v),hC (gR v)];rfl
    refine ai (j6 (ci e e v v)) ?_;dsimp only;by_cases N:(h e e).1<0
    ·rw[aw N,aw N,aF (show fv (h e e).1<0 by simp_all [au,aw,fv]),aZ bn,bc aa]
     try rfl
    rw[au N,au N,aA (show¬fv (h e e).1<0 by simp_all [au,fv]),aW bn,bc aa]
    try rfl
   rw[fY,aA (aa:¬(e:Z)=(j:Z)),aW bn,au t,au t,bc aa,bc aa]
  dsimp only;refine bz (nt v) (bz (nu v H) (bz (yH v H) ?_));have dg:r≠[]->4*jD B (n-i.length)+1<=jD B (n-r.length)/\(e≠j->7*jD B (n-i.length)+2<=jD B (n-r.length))/\jD B (n-r.length)<=3000000:=λG=>by
   have ft:0<r.length:=uz.2 G;have F:=ML B (n-i.length);refine⟨?_,λt=>?_,c4 (xc aa) V⟩
   ·have:jD B (n-i.length+1)<=jD B (n-r.length):=xc (by grind);omega
   rw[au t] at dl;have x:=ML B (n-i.length+1);grind
  refine bE (age (T:=h) (S:=r) (l:=i) (p:=e) (q:=j) (B:=jD B (n-i.length)) (C:=jD B (n-r.length)) aa Q ce v H A K k.Ld k.b G dg) ?_;rintro _ ⟨fp,rfl,E,rfl,d2,d8⟩;dsimp only;refine bu.2 ⟨⟨_,_,r,E,bn,?_⟩,?_⟩
  rotate_left
  ·grind
  have ad:∀g∈r,∀m∈r,m9 (jD B (n-r.length)) (E g m)/\eM (E g m)=qL h e j g m:=λg w m D=>d2 g m (WD.2 ⟨w,D⟩);refine⟨ce,λI R=>(Q I R).1,λd o f s=>?_,λg m w D=>?_,?_,λan bl=>?_⟩
  ·rw[(ad d o f s).2,(ad f s d o).2];exact Qh k.Ld A K (Q d o).2.2.2 (Q f s).2.2.2
  ·by_cases t:qx r r.length 0 g m
   ·grind
   rw[d8 g m t];exact(k.b g m w D).mono (xc aa)
  ·grind
  have am:=yA (k.b e j v H).1;have U:eM (h e j)≠0:=λF=>G (am.2.2.1 F);by_cases t:e=j
  ·subst t;have bx:eO e i=r:=(by grind [GI,mS]);obtain⟨u,ao,x,J⟩:=k.el _ (m2.one (b:=λd f=>eM (E d f)) A U (λd o f s=>by
    rw[bx] at o s;show eM (E d f)=eM (h d f)-1/eM (h e e)*(eM (h d e)*eM (h e f));rw[(ad d o f s).2];unfold qL;grind) (by rw[bx];exact bl))
   have f7:(0<1/eM (h e e))↔0<(h e e).1:=(O1 U).1.trans am.2.1;have f8:(1/eM (h e e)<0)↔(h e e).1<0:=(O1 U).2.trans am.1;refine⟨u,ao,?_,?_⟩
   ·rw[x,tV,aw bn];grind
   rw[J,tN,aw bn];grind
  obtain⟨fl,fn⟩:=d3 t;have eq:eM (h e e)=0:=(yA (k.b e e v v).1).2.2.2 fl;have ex:eM (h j j)=0:=(yA (k.b j j H H).1).2.2.2 fn;obtain⟨u,ao,x,J⟩:=k.el _ (m2.two (b:=λd f=>eM (E d f)) A K t U eq ex (λd o f s=>by
   simp_all [au,qL,eM]) (by rw[O];exact bl))
  have fT:2*eM (h e j)≠0:=(by grind);have f4:1/(2*eM (h e j))*(2*eM (h e j))=1:=(by grind);refine⟨u,ao,?_,?_⟩
  ·rw[x,tV,tV,au t];grind
  rw[J,tN,tN,au t];grind
 rintro _ ⟨z,pos,i,h,rfl,k,co⟩;dsimp only;obtain⟨u,ao,x,J⟩:=k.el _ (m2.done λd o f s=>co d o f s);have d0:=k.c;have fr:kV u=pos:=x.trans (by rw[(Rt _ i).1,apO]);have fs:li u=z:=J.trans (by rw[(Rt _ i).2,apO]);grind [a7,cg,bu]
theorem ae0 (d:gb (e*2^a)):Sz (Y e) (a:Z)=Y (e*2^a):=by
 show(if e=0 then Y 0 else g7 (cO e) (fM e+(a:Z)))=Y (e*2^a);by_cases b:e=0
 ·rw[aw b,b,om]
 rw[au b];have c:(fM e+(a:Z)+65536).toNat=cV e.natAbs+a:=(by grind [fM]);rw[Bf (v:=e*2^a) (by grind [fM]) (by rw[c,yx,<-jz,qM])];simp_all [aw,oD]
theorem aeB (m:a=65536) {b:Z} (f:gb e) (l:e=b*2^a):D8 (aB (Y e),())=Y (aN b,bq,()):=by
 unfold D8;refine ai (oS (d:=Y e) (λq p=>by grind)) ?_;rw[hu];have j:=ki f;have k:=kB f;dsimp only;rw[bP];refine ai (yG aa aa aa) ?_;have n:(2:Z)^a≠0:=(by grind);have h:pM (cO e) (c7 e)=b:=by
  by_cases g:b=0
  ·have c:e=0:=(by grind);rw[c,g];rfl
  have c:e≠0:=(by grind);have o:cV e.natAbs=cV b.natAbs+a:=(by grind [kz,Gz]);have ao:c7 e=((cV b.natAbs:X):Z):=(by unfold c7 fM;rw[au c];omega);rw[ao,ny];have i:cO e*2^cV b.natAbs*2^a=b*2^a:=(by grind [amx,yx,qM]);grind [Int.mul_eq_mul_right_iff]
 rw[h]
theorem adW {E m n:X} (D:a=65536) (M:E<=a) (R:m<=1000) (S:n<=1000) (z:∀b c,b<m->c<n->gH (a-E) (h b c)/\gb (h b c*2^E)):∃d:X,d<=E/\(∀b c,b<m->c<n->gH (a-d) (h b c))/\xG (cU m n (λb c=>aB (Y (h b c))),())=Y (cU m n (λb c=>aN (h b c/2^(a-d))),()):=by
 have A:∀b c (d:X),b<m->c<n->d<=E->gb (h b c*2^d):=λb c d e g o=>(by refine c4 (kK ?_) (z b c e g).2;simp_all [am6,FR,kz]);have r:∀b c,b<m->c<n->cW (Y (h b c)):=λb c e g V U=>(by have:=A b c 0 e g (eU _);grind);suffices G:ae (xG (cU m n (λb c=>aB (Y (h b c))),())) λj=>∃d:X,d<=E/\(∀b c,b<m->c<n->gH (a-d) (h b c))/\j=(cU m n (λb c=>aN (h b c/2^(a-d))),()) by obtain⟨j,B,d,q,C,rfl⟩:=G;exact⟨d,q,C,B⟩
 unfold xG;dsimp only;refine bE (P:=λj=>∃d:X,d<=E/\j=(-(d:Z),())/\∀b c,b<m->c<n->h b c≠0->-(d:Z)<=fM (h b c)) ?_ ?_
 ·refine bQ m (λb k=>∃d:X,d<=E/\k=(-(d:Z),(b:Z),())/\∀i f,i<b->f<n->h i f≠0->-(d:Z)<=fM (h i f)) ⟨0,eU _,bn,λi f l=>absurd l (sH _)⟩ ?_ ?_
  ·rintro b _ e ⟨d,o,rfl,t⟩;dsimp only;rw[a7,nv,aZ (aF (aa:(b:Z)<(m:Z))),bc aa];refine bE (P:=λj=>∃d:X,d<=E/\j=(-(d:Z),())/\∀i f,i<b+1->f<n->h i f≠0->-(d:Z)<=fM (h i f)) ?_ ?_
   ·refine bQ n (λc k=>∃d:X,d<=E/\k=(-(d:Z),(c:Z),())/\(∀i f,i<b->f<n->h i f≠0->-(d:Z)<=fM (h i f))/\∀f,f<c->h b f≠0->-(d:Z)<=fM (h b f)) ⟨d,o,bn,t,λf l=>absurd l (sH _)⟩ ?_ ?_
    ·rintro c _ g ⟨p,v,rfl,x,J⟩;obtain⟨F,T⟩:=z b c e g;dsimp only;refine bz (mq e) ?_;rw[a7,cN,aZ (aF (aa:(c:Z)<(n:Z))),bc aa];by_cases s:h b c=0
     ·refine bz (y:=(-(p:Z),())) ?_ (bu.2 ⟨p,v,bn,x,λf w l=>?_⟩)
      ·refine ai (mq e) (ai (gg (gR g)) (ai (KL (r b c e g)) ?_));dsimp only;rw[s,aW (by rfl)]
      grind
     have Q:=gH.ex s F;refine bz (y:=(-((max p (-(fM (h b c))).toNat:X):Z),())) ?_ (bu.2 ⟨max p (-(fM (h b c))).toNat,aa,bn,λi f N w l=>by grind,λf w l=>?_⟩)
     ·refine ai (mq e) (ai (gg (gR g)) (ai (KL (r b c e g)) ?_));have K:h1 (Y (h b c))≠0:=by
       show fv (h b c)≠0;unfold fv;omega
      dsimp only;rw[fL,aA K,aZ (by rfl)];refine ai (mq e) (ai (gg (gR g)) (ai (oS (r b c e g)) ?_));rw[hu];dsimp only;have O:c7 (h b c)=fM (h b c):=(by simp_all [cc,c7]);grind
     grind
    rintro _ ⟨p,v,rfl,x,J⟩;dsimp only;refine bz (mq e) ?_;rw[a7,cN,aW (aA (aa:¬((n:Z)<(n:Z))))];grind [bu]
   grind [bu]
  rintro _ ⟨d,o,rfl,t⟩;dsimp only;rw[a7,nv,aW (aA (aa:¬((m:Z)<(m:Z))))];grind [bu]
 rintro _ ⟨d,o,rfl,t⟩;have H:ax (0- -(d:Z))=(d:Z):=(by grind [bh]);have u:∀b c,b<m->c<n->gH (a-d) (h b c):=λb c e g=>(by grind [gH.Tq,gH.zero,fM]);have L:∀b c,b<m->c<n->h b c*2^d=h b c/2^(a-d)*2^a:=λb c e g=>(by obtain⟨ad,s⟩:=u b c e g;have I:(2:Z)^(a-d)≠0:=(by have:(0:Z)<2^(a-d):=Int.pow_pos ab;omega);rw[s,Int.mul_ediv_cancel _ I,amx,<-yx,(aa:a-d+d=a)]);dsimp only;refine bE (P:=λj=>j=(cU m n (λb c=>aN (h b c/2^(a-d))),())) ?_ (by rintro _ rfl;exact bu.2 ⟨d,o,u,bn⟩);refine bQ m (λb k=>k=((b:Z),cU b n (λb c=>aN (h b c/2^(a-d))),())) rfl ?_ ?_
 ·rintro b _ e rfl;dsimp only;rw[a7,nv,aZ (aF (aa:(b:Z)<(m:Z))),bc aa];refine bE (P:=λj=>j=(cU b n (λb c=>aN (h b c/2^(a-d))),az n (λc=>aN (h b c/2^(a-d))),())) ?_ ?_
  ·refine bQ n (λc k=>k=((c:Z),cU b n (λb c=>aN (h b c/2^(a-d))),az c (λc=>aN (h b c/2^(a-d))),())) rfl ?_ ?_
   ·rintro c _ g rfl;dsimp only;refine bz (mq e) ?_;rw[a7,cN,aZ (aF (aa:(c:Z)<(n:Z))),bc aa,H];have q:=A b c d e g o;refine bz (mq e) (bz (gg (gR g)) (bz (aeP (r b c e g) aa aa) ?_));rw[ae0 q];refine bz (aeB D q (L b c e g)) ?_;grind [nT,bu,eS,cN]
   rintro _ rfl;dsimp only;refine bz (mq e) ?_;rw[a7,cN,aW (aA (aa:¬((n:Z)<(n:Z))))];grind [bu]
  rintro _ rfl;grind [nT,bu,eS,nv,cU]
 rintro _ rfl;dsimp only;rw[a7,nv,aW (aA (aa:¬((m:Z)<(m:Z))))];grind [bu]
section
def cX (a:ez):Rat:=((a.getD 0:Z):Rat)
def mr (a:X×X->Rat):aj7->Rat
 |[]=>0
 |x::b=>a x+mr a b
theorem Sw {b c:X×X->Rat}:∀{a:aj7},(∀x∈a,b x=c x)->mr b a=mr c a
 |[],_=>rfl
 |x::a,d=>by rw[mr,mr,d x ac,Sw λe f=>d e (by grind)]
theorem Sy {b:X×X->Rat}:∀{a:aj7},(∀x∈a,b x=0)->mr b a=0
 |[],_=>rfl
 |x::a,c=>by rw[mr,c x ac,Sy λd e=>c d (by grind)];grind
theorem Sx {c d:X×X->Rat} {b:X×X} {g:Rat}:∀{a:aj7},a.Nodup->b∈a->(∀y,y≠b->c y=d y)->c b=d b+g->mr c a=mr d a+g
 |[],_,i,_,_=>by grind
 |y::a,f,i,e,j=>by
  rw[jS] at f;rw[mr,mr];by_cases h:y=b
  ·grind [Sw]
  rw[e y h,Sx f.2 (by grind) e j];grind
theorem PN {n:X} (c:a<n):b∈jL n a↔a<=b+1/\b<n/\b<=a+1:=by grind [jL]
theorem JJ {n:X} {b:X×X}:b∈jK n a↔b.1<a/\b.2∈jL n b.1:=by unfold jK;grind
theorem Rx (n:X):∀m,(jK n m).Nodup
 |0=>List.nodup_nil
 |m+1=>by rw[Kx];have b:(jL n m).Nodup:=(by grind [List.nodup_range',jL]);refine jt.2 ⟨Rx n m,ou.2 (b.imp λa g=>a (by grind)),?_⟩;intro i f j c d;obtain⟨h,e,rfl⟩:=eQ.1 c;simp_all [wV,JJ,absurd]
theorem BK {g:aj7} (i:g.Nodup) {E:X->X->ez} (j:(a,b)∈g) (n:E a b=Y 0) (d:ez) (e f:X->Rat):mr (λc=>e c.1*cX (gm E a b d c.1 c.2)*f c.2) g=mr (λc=>e c.1*cX (E c.1 c.2)*f c.2) g+e a*cX d*f b:=by
 refine Sx i j (λc k=>?_) ?_
 ·show e c.1*cX (gm E a b d c.1 c.2)*f c.2=e c.1*cX (E c.1 c.2)*f c.2;have:gm E a b d c.1 c.2=E c.1 c.2:=au λh=>k (Prod.ext h.1 h.2);grind
 show e a*cX (gm E a b d a b)*f b=e a*cX (E a b)*f b+e a*cX d*f b;have l:gm E a b d a b=d:=aw ⟨bn,bn⟩;have m:cX (Y 0)=0:=rfl;grind
def gP (e:Z->Rat) (b c:X->Rat):bm aP->X->Rat
 |[],_=>0
 |q::ps,a=>(if q.aY.length=2 then e (q.d.getD 0 0)*(b a*c a)+e (q.d.getD 1 0)*(b (a+1)*c a+b a*c (a+1))+e (q.d.getD 2 0)*(b (a+1)*c (a+1)) else e (q.d.getD 0 0)*(b a*c a))+gP e b c ps (a+q.aY.length)
theorem MK (b:Z->Rat) (c d:X->Rat) (e:aP):∀(ps:bm aP) (a:X),gP b c d (ps++[e]) a=gP b c d ps a+gP b c d [e] (a+(ps.flatMap aP.aY).length)
 |[],a=>by show gP b c d [e] a=0+gP b c d [e] (a+0);grind
 |p::ps,a=>by show _+gP b c d (ps++[e]) (a+p.aY.length)=(_+gP b c d ps (a+p.aY.length))+_;rw[MK b c d e ps,ot,h5,uE];grind
theorem CD (a:Z->Rat) (c d:X->Rat):∀(ps:bm aP) (b:X),gP a c d ps b=gP a d c ps b
 |[],_=>rfl
 |q::ps,b=>by rw[gP,gP,CD a c d ps];grind
theorem MH (b:Z->Rat) (a:Rat) (e f d:X->Rat):∀(ps:bm aP) (c:X),gP b (λg=>a*e g+f g) d ps c=a*gP b e d ps c+gP b f d ps c
 |[],_=>by show(0:Rat)=a*0+0;grind
 |q::ps,c=>by rw[gP,gP,gP,MH b a e f d ps];grind
theorem MI (a:Z->Rat) (c:X->Rat):∀(ps:bm aP) (b:X),gP a (λ_=>0) c ps b=0
 |[],_=>rfl
 |q::ps,b=>by rw[gP,MI a c ps];grind
def Hu (a:Z->Rat) (d:X->Rat) (c:X->X->Rat) (e:X->Rat) (ps:bm aP) (b:X):∀f:aj5,gP a (λg=>eJ (λi=>d i*c i g) f) e ps b=eJ (λi=>d i*gP a (c i) e ps b) f
 |[]=>MI a e ps b
 |i::f=>by show gP a (λg=>d i*c i g+eJ (λi=>d i*c i g) f) e ps b=d i*gP a (c i) e ps b+eJ (λi=>d i*gP a (c i) e ps b) f;rw[MH,Hu a d c e ps b f]
theorem MJ (c:Z->Rat) (b a:Rat) (f g:X->Rat):∀(ps:bm aP) (d:X),gP (λh=>b*c h) (λe=>a*f e) (λe=>a*g e) ps d=b*(a*a)*gP c f g ps d
 |[],_=>by show(0:Rat)=b*(a*a)*0;grind
 |q::ps,d=>by rw[gP,gP,MJ c b a f g ps];grind
theorem adP {e:Z->Rat} {C:X->X->Rat} {ps:bm aP} (h:∀a∈d,∀g∈d,c a g=gP e (C a) (C g) ps 0) (b:X->Rat):ns c d b=gP e (λf=>eJ (λa=>b a*C a f) d) (λf=>eJ (λa=>b a*C a f) d) ps 0:=by unfold ns;rw[Hu e b C _ ps 0 d];refine pJ λa i=>?_;congr 1;rw[CD,Hu e b C _ ps 0 d];grind [Rat.mul_comm,CD,pJ]
theorem Pt (a b:X->Rat):∀n,lf a b n=eJ (λc=>b c*a c) (bJ n)
 |0=>rfl
 |n+1=>by rw[lf,Pt a b n,jB,aeZ];grind [eJ]
theorem RC (c:Z->Rat) (b:X->Rat):∀(ps:bm aP) (a:X),(∀q∈ps,(q.aY.length=1/\∃e,q.d=[e])\/(q.aY.length=2/\∃e f g,q.d=[e,f,g]))->wd b (ps.map λq=>q.aY.length) (ps.flatMap λq=>q.d.map c) a=gP c b b ps a
 |[],_,_=>rfl
 |q::ps,a,j=>by
  have k:=λa=>RC c b ps a λq l=>j q (gC _ l);rw[gW,ot,gP];rcases j q (js ..) with⟨h,e,i⟩|⟨h,e,f,g,i⟩
  ·rw[h,i,au ab,<-k];show c e*(b a*b a)+_=c e*(b a*b a)+_;rfl
  rw[h,i,aw bn,<-k];show(c e*(b a*b a)+2*c f*(b a*b (a+1))+c g*(b (a+1)*b (a+1)))+_=(c e*(b a*b a)+c f*(b (a+1)*b a+b a*b (a+1))+c g*(b (a+1)*b (a+1)))+_;congr 1;grind
def zi (b:Z->Rat) (f:aP):Prop:=
 (f.aY.length=1/\∃a,f.d=[a])\/(f.aY.length=2/\∃a c e,f.d=[a,c,e]/\(b a*b e-b c*b c<0↔h1 (ja [a,c,e])<0)/\b a*b e-b c*b c≠0/\(¬h1 (ja [a,c,e])<0->h1 (aX a)≠0))
theorem zi.two {g:Z->Rat} {a:aP} (f:zi g a):(a.aY.length=1/\∃c,a.d=[c])\/(a.aY.length=2/\∃c b e,a.d=[c,b,e]):=by
 rcases f with f|⟨h,c,b,e,i,_⟩
 ·grind
 grind
def LK {g:Z->Rat} {n:X}:∀(ps:bm aP) (a:X),(∀q∈ps,zi g q)->a+(ps.flatMap aP.aY).length=n->so n (ps.map λq=>q.aY.length) (ps.flatMap λq=>q.d.map g) a
 |[],a,_,b=>by obtain rfl:a=n:=b;exact .nil
 |q::ps,a,h,b=>by
  rw[ot,h5] at b;have c:=LK (g:=g) (n:=n) ps (a+q.aY.length) (λq b=>h q (gC _ b)) aa;rw[gW,ot];rcases h q (js ..) with⟨e,i,f⟩|⟨e,i,k,l,f,_,j,_⟩
  ·rw[e] at c|-;rw[f];exact .one c
  rw[e] at c|-;rw[f];exact .two j c
theorem SF {g:Z->Rat} (i:∀c,(0<g c↔0<h1 (aX c))/\(g c<0↔h1 (aX c)<0)):∀(ps:bm aP),(∀q∈ps,zi g q)->((ms (ps.map λq=>q.aY.length) (ps.flatMap λq=>q.d.map g)).1:Z)=(fH ps).2.2/\((ms (ps.map λq=>q.aY.length) (ps.flatMap λq=>q.d.map g)).2:Z)=(fH ps).1/\(fH ps).1+(fH ps).2.1+(fH ps).2.2=((ps.flatMap aP.aY).length:Z)
 |[],_=>⟨bn,bn,bn⟩
 |q::ps,j=>by
  obtain⟨i1,u,v⟩:=SF i ps λq p=>j q (alx _ p);have k:fH (q::ps)=((j7 q).1+(fH ps).1,(j7 q).2.1+(fH ps).2.1,(j7 q).2.2+(fH ps).2.2):=rfl;rw[k,amG,apP,apP,akG];dsimp only;rcases j q (alY ..) with⟨f,a,h⟩|⟨f,a,b,e,h,r,s,t⟩
  ·obtain⟨n,o⟩:=i a;rw[f,h];have l:j7 q=if h1 (aX a)<0 then(1,0,0) else if h1 (aX a)>0 then(0,0,1) else(0,1,0):=by
    simp_all [au,absurd,j7]
   have m:ms (1::ps.map λq=>q.aY.length) ([a].map g++ps.flatMap λq=>q.d.map g)=(let q:=ms (ps.map λq=>q.aY.length) (ps.flatMap λq=>q.d.map g);if 0<g a then(q.1+1,q.2) else if g a<0 then(q.1,q.2+1) else q):=rfl;grind
  obtain⟨n,o⟩:=i a;rw[f,h];have l:j7 q=if h1 (ja [a,b,e])<0 then(1,0,1) else if h1 (aX a)<0 then(2,0,0) else if h1 (aX a)>0 then(0,0,2) else(0,1,0):=by unfold j7;grind
  have m:ms (2::ps.map λq=>q.aY.length) ([a,b,e].map g++ps.flatMap λq=>q.d.map g)=(let q:=ms (ps.map λq=>q.aY.length) (ps.flatMap λq=>q.d.map g);if g a*g e-g b*g b<0 then(q.1+1,q.2+1) else if 0<g a then(q.1+2,q.2) else(q.1,q.2+2)):=rfl;grind
section
variable {n:X} {ps:bm aP}
theorem LM (e:hp n ps):∀m,m<=ps.length->∀a b,(cQ ps m<=a\/cQ ps m<=b)->iI ps m a b=Y 0
 |0=>λ_ a b _=>rfl
 |m+1=>by
  intro h a b f;have c:m<ps.length:=aa;have g:=rU c;have i:=(e.hl c).1;have j:=LM e m aa a b aa;rw[iI,bX c];dsimp only;by_cases d:ps[m].aY.length=2
  ·rw[aw d];unfold gm;grind
  rw[au d];unfold gm;grind
theorem LL (j:hp n ps) (k l:X->Rat):∀m,m<=ps.length->mr (λb=>k b.1*cX (iI ps m b.1 b.2)*l b.2) (jK n n)=gP (λr=>cX (aX r)) k l (ps.take m) 0
 |0,_=>by refine Sy λb _=>?_;show k b.1*cX (Y 0)*l b.2=0;have v:cX (Y 0)=0:=rfl;grind
 |m+1,x=>by
  have c:m<ps.length:=aa;have u:=LL j k l m aa;have w:=j.x5 c;have y:=(j.hl c).1;have p:=LM j m aa;have g:∀e f,e<n->f<n->e<=f+1->f<=e+1->(e,f)∈jK n n:=λe f o c s t=>JJ.2 ⟨o,(PN o).2 ⟨s,c,t⟩⟩;have h:=Rx n n;rw[nA c,MK,<-u,mC,show((ps.take m).flatMap aP.aY).length=cQ ps m from rfl];have q:iI ps (m+1)=if ps[m].aY.length=2 then gm (gm (gm (gm (iI ps m) (cQ ps m) (cQ ps m) (aX (ps[m].d.getD 0 0))) (cQ ps m+1) (cQ ps m) (aX (ps[m].d.getD 1 0))) (cQ ps m) (cQ ps m+1) (aX (ps[m].d.getD 1 0))) (cQ ps m+1) (cQ ps m+1) (aX (ps[m].d.getD 2 0))
   else gm (iI ps m) (cQ ps m) (cQ ps m) (aX (ps[m].d.getD 0 0)):=by
   rw[iI,bi c]
  rw[q,gP,gP];generalize cQ ps m=a at*;by_cases i:ps[m].aY.length=2
  ·rw[aw i,aw i];rw[BK h (g (a+1) (a+1) aa aa aa aa) (by simp_all [au,gm]),BK h (g a (a+1) aa aa aa aa) (by simp_all [au,gm]),BK h (g (a+1) a aa aa aa aa) (by simp_all [au,gm]),BK h (g a a aa aa aa aa) (p _ _ aa)];grind
  rw[au i,au i];rw[BK h (g a a aa aa aa aa) (p _ _ aa)];grind
end
end
section
section
variable {σ ρ:Type} {f:σ->bv (σ⊕ρ)}
end
def J1:aX 0=Y 0:=by decide
end
abbrev mT:Z:=4607182418800017408
def afH:iZ 2 2 [0,1,1] [1] [mT] where
 hr:=by decide
 hc:=by decide
 hi:=by decide
 hs:=by decide
 hv:=by decide
 hw:=λb a=>by rw[gp.1 a];exact⟨ab,ab⟩
def afI:gx 2 2 [0,1,1] [1] [mT] where
 len:=rfl
 first:=rfl
 mono:=λb e=>by have:b=0\/b=1:=aa;rcases this with rfl|rfl<;>decide
 last:=rfl
 val:=rfl
 rng:=λb a e c d=>by
  have:b=0\/b=1:=aa;rcases this with rfl|rfl
  ·change(0:Z)<=a at c;change(a:Z)<1 at d;have:a=0:=aa;subst this;exact⟨ab,ab⟩
  change(1:Z)<=a at c;change(a:Z)<1 at d;omega
 asc:=λb a e c d=>by
  have:b=0\/b=1:=aa;rcases this with rfl|rfl
  ·change(0:Z)<a at c;change(a:Z)<1 at d;omega
  change(1:Z)<a at c;change(a:Z)<1 at d;omega
def S0:hH 2 2 [0,1,1] [1] [mT]=0:=by refine kM.2 ⟨afI,λa b=>?_⟩;have:a=0:=(by have:([mT]:aj6).length=1:=rfl;omega);subst this;decide
def K8:bm cY:=[(1,0,mT,())]
def S1:eG [0,1,1] [1] [mT] 2=K8:=rfl
def S4:lK 2 (g6 K8) [0,1]=IB:=by decide
def yS:bm eD:=[(0,(2,([0,1],((-1:Z),()))))]
def Gr:iu IB yS:=by
 refine⟨⟨λa b=>?_,bn⟩,λa b=>?_,λa b=>?_,λh c i l=>?_⟩
 ·have b:a<1:=b;obtain rfl:a=0:=aa;exact⟨_,bn,bn,ab,ab⟩
 ·have j:a<1:=b;obtain rfl:a=0:=aa;refine⟨(by decide:2<=2),λc _ g d=>?_⟩;have g:c<2:=g;have:c=0\/c=1:=aa;rcases this with rfl|rfl
  ·exact⟨λ_=>rfl,λd=>absurd (show 2<=0 from d) ab⟩
  exact⟨λ_=>rfl,λd=>absurd (show 2<=1 from d) ab⟩
 ·have j:a<1:=b;obtain rfl:a=0:=aa;exact .inl ⟨bn,bn⟩
 have k:fu IB:=(by rw[<-S4];exact AW _ _ _);obtain⟨e,f⟩:=i.lt k;have e:h<2:=e;have f:c<2:=f;obtain rfl:h=0:=aa;obtain rfl:c=1:=aa;decide
abbrev Gq:X->X->ez:=nS K8 [0,1]
def R6:mm (aX mT) 0=mT:=by rw[v1,EL (a:=0) ab ab];decide
def R7:mm (aX 0) 0=0:=by rw[J1];rfl
def ha:a9:=iN Gq yS (λa=>([]:bm a9).getD a hP) 0
def yT:ha.rows=[0,1]:=by decide
def SZ:ha.full=2:=by decide
def La:ha.bj 0 0=0:=R7
def S5:ha.bj 0 1=mT:=R6
def Lb:ha.bj 1 0=mT:=R6
def Lc:ha.bj 1 1=0:=R7
def S3 (a:X) (c:a=0\/a=1):ha.fin a:=by
 unfold a9.fin;rw[yT];intro d b;simp only[fC,anq,or_false] at b;rcases c with rfl|rfl<;>rcases b with rfl|rfl
 ·rw[La];decide
 ·rw[Lb];decide
 ·rw[S5];decide
 rw[Lc];decide
def afF:ha.choose=Y [0,1]:=by
 obtain⟨a,l⟩:∃a:X,a=65536:=⟨_,bn⟩;have g:aX mT=Y (1*2^a):=(by rw[l];exact v1);have c:(0:Z)<2^a:=lz ab;have d:ha.av 0 0=0:=(by unfold a9.av;rw[La,J1];rfl);have j:ha.av 1 1=0:=(by unfold a9.av;rw[Lc,J1];rfl);have i:ha.av 1 0=2^a:=(by unfold a9.av;rw[Lb,g,wX,alU];exact apQ (fm c));have h:ha.av 0 1=2^a:=(by unfold a9.av;rw[S5,g,wX,alU];exact apQ (fm c));have e:ha.hh 0=(2^a,Y 1):=(by unfold a9.hh;rw[yT];show(ha.av 1 0,Y 1)=_;rw[i]);have k:ha.hh 1=(2^a,Y 0):=(by unfold a9.hh;rw[yT];show(ha.av 0 1,Y 0)=_;rw[h]);unfold a9.choose;have f:ha.rows.take ha.full=[0,1]:=(by rw[yT,SZ];rfl);rw[f,a9.iO,au (akw (S3 0 (.inl bn))),au (by
  rw[e,d];intro b;rcases b with b|b
  ·dsimp only at b;omega
  dsimp only at b;omega)]
 rw[e];dsimp only;rw[cc (akw (by rw[f];decide)),cc (akw (S3 1 (.inr bn))),cc (by
  rw[d,om,alT];have:=pV c c;omega),au (by
  rw[k,j];dsimp only;omega)]
def WO (b:a9) (a:aj5):(b.elim a).rows=b.rows.filter λc=>br (c∉a):=rfl
def adK (b:a9) (a:aj5):(b.dd a).rows=b.rows.filter λc=>br (c∉a):=rfl
def adJ (c:a9) (a b:X):(c.dd [a,b]).d=[c.bj a a,c.bj b a,c.bj b b]:=rfl
def afG:a9.run 3 ha=Y (ha.elim [0,1],[ha.dd [0,1]]):=by
 have a:([0,1]:aj5).filter (λc=>br (c∉[0,1]))=[]:=ab;have e:(ha.elim [0,1]).rows=[]:=(by rw[WO,yT,a]);rw[yI afF ab,aw (by
  intro f _ c b;rw[adK,yT,a] at b;cases b)]
 have d:(ha.elim [0,1]).choose=Y []:=(by unfold a9.choose;rw[e,List.take_nil,a9.iO]);rw[BJ d];rfl
def K9:jb Gq yS 1=Y ([ha.elim [0,1]],[ha.dd [0,1]]):=by have b:iN Gq yS (λa=>([]:bm a9).getD a hP) 0=ha:=rfl;rw[jb,jb,bK];dsimp only;rw[b,SZ,afG,alX,aod,aod]
def Xp {c:X->X->ez} {o:aj6} {b:bm eD} {d:bm a9} {e:bm aP} (g:b.length=a) (f:jb c b a=Y (d,e)):qz c o b=(pq o e (mf d:Z),0,()):=by subst g;unfold qz;rw[f]
def adr (h:f.length<=9223372036854775807) (g j:Z) (k:bA):ae (DZ (f,g,j,k,())) λw=>
 ∃(a:X) (d b e c:aj6) (i:jv),a<=5/\iZ a a d b e/\c.length=a/\w=(((a:Z),(a:Z),d,b,e,()),c,i,())/\(oW a a d b e c=0->iu (lK a (g6 (eG d b e a)) c) i):=by
 unfold DZ;refine bz (vS g (n:=6) ab ab) ?_;have y:=Fy g (n:=6) ab;dsimp only;generalize tK g 6=a at*;refine bE (Uc h (aa:a<=5) (aa:a<=5) j) ?_;rintro⟨x,_⟩ r;dsimp only;refine bE (P:=λt=>sq a a t.2.1) ?_ ?_
 ·cases k with
  |true=>
   rw[bG];refine bE (T0 h (n:=a) aa j) ?_;rintro⟨p,_⟩ q;exact bu.2 q
  |false=>
   rw[bP];exact bu.2 r
 rintro⟨_,p,_⟩ l;dsimp only at l|-;refine bE (Uo h (n:=a) aa) ?_;rintro⟨c,_⟩ m;dsimp only at m|-;obtain⟨d,b,e,rfl,ay,u,v⟩:=l.ex;have o:=sq.small (aa:a<=5) (aa:a<=5) ay u v;refine bE (XR (aa:a<=5) o h) ?_;rintro _ ⟨i,rfl,_,_,s⟩;exact bu.2 ⟨a,d,b,e,c,i,aa,o,m,bn,s⟩
section
def Xj (d:∀c∈f,cE c≠2047) (b:X):cE (f.getD b 0)≠2047:=by
 rcases cT b f.length with a|a
 ·rw[j1 a];exact d _ (cF a)
 rw[k0,p2 a];show cE 0≠2047;decide
def FP {D:X} (a:D=65536):iT 1=Y (1*2^D)/\aX mT=Y (1*2^D):=⟨Jb (n:=1) ab a,by rw[a];exact v1⟩
def cC.e5 {D:X} {l:ep} (d:∀c∈l,cC D i b a c):lF l=bq/\gH (D-i) (iF l)/\(iF l).natAbs<=l.length*(a*2^(D+b)):=by
 induction l with
 |nil=>exact⟨bn,gH.zero _,by simp[iF]⟩
 |cons c l j=>
  obtain⟨i1,h,o⟩:=j λc g=>d c (gC _ g);obtain⟨k,rfl,f,n⟩:=d c (js ..);refine⟨by simp[lF,i1],f.add h,?_⟩;show(k+iF l).natAbs<=(l.length+1)*(a*2^(D+b));generalize a*2^(D+b)=e at*;rw[l3,mB];generalize l.length*e=m at*;omega
theorem Tg {T:X×X->ez} {f:X×X->Rat} {s:Rat}:∀{l:aj7},(∀x∈l,cX (T x)*s=f x)->((iF (l.map T):Z):Rat)*s=mr f l
 |[],_=>by show((0:Z):Rat)*s=0;rw[show((0:Z):Rat)=0 from rfl];grind
 |x::l,a=>by have d:=Tg (T:=T) (f:=f) (s:=s) (l:=l) λe c=>a e (gC _ c);have b:=a x (js ..);show(((T x).getD 0+iF (l.map T):Z):Rat)*s=f x+mr f l;rw[Rat.intCast_add,<-d,<-b];unfold cX;grind
def Gk (a:ez):(0<h1 a↔0<a.getD 0)/\(h1 a<0↔a.getD 0<0):=by
 unfold h1 fv;split
 ·omega
 split<;>omega
def NG {D:X} (d:D=65536) {a b c:Z} (p:cE a≠2047) (i:cE b≠2047) (q:cE c≠2047):∃j f e g:Z,ja [a,b,c]=Y j/\aX a=Y f/\aX b=Y e/\aX c=Y g/\j*2^D=f*g-e*e:=by
 obtain⟨s,f,g,u,ao,l,m,n⟩:=(akL d p).mul d (akL d q) ab ab ab;obtain⟨t,e,k,v,h,f2,o,f4⟩:=(akL d i).mul d (akL d i) ab ab ab;obtain rfl:e=k:=gq (h.symm.trans f2);have r:=(cC.add d ab s t.neg ab).2;refine⟨u-v,f,e,g,?_,ao,h,l,?_⟩
 ·show cR (cJ (aX a) (aX c)) (dc (cJ (aX b) (aX b)))=_;rw[r,m,o];rfl
 rw[Int.sub_mul,n,f4]
theorem aea (c:0<g) (e:k*(g*g)=l*(g*g)):k=l:=by
 have a:=al2 c c;have d:(k-l)*(g*g)=0:=(by grind);rcases sK.1 d with b|b
 ·grind
 rw[b] at a;exact absurd a ab
theorem aeb (a:0<g):g/g=1:=by grind
theorem aec (a:Rat):0/a=0:=by grind
theorem RM (b a:Rat):b/a=1/a*b:=by grind
theorem aed (b:0<k) (a:0<g):l=1/k*(1/g*(1/g))*(l*k*(g*g)):=by grind
def RN (a:X):(0:Rat)<(((2:Z)^a:Z):Rat):=amI.2 (lz ab)
section
variable {n D:X} {ps:bm aP} {F:fI}
def L0 (b:D=65536) (c:hE n ps F) {i:X} (k:a<n):cC D 1074 1024 1 (g2 ps i a):=by
 unfold g2;by_cases d:i=a
 ·rw[aw d,(FP b).1,<-(FP b).2];exact akL b ab
 rw[cc d];obtain⟨m,o,e,l,rfl⟩:=c.ok.eF k;obtain⟨f,h,g⟩:=c.ok.uY e l;rw[g];dsimp only;split
 ·rename_i j;exact akL b ((c.ok.dd _ (cF e)).fin f h _ j)
 exact cC.zero
def Uj (b:D=65536) (a:X):g2 ps a a=Y (1*2^D):=by unfold g2;rw[aw bn];exact(FP b).1
def Uk (c:hE n ps F) (m:a<b) (h:b<n):g2 ps a b=Y 0:=by unfold g2;rw[cc aa];obtain⟨k,o,d,i,rfl⟩:=c.ok.eF h;obtain⟨j,l,e⟩:=c.ok.uY d i;rw[e];dsimp only;rw[cc];intro g;have f:=(c.ok.after d g).1;rw[c.ok.idx (aa:a<n)] at f;omega
def BZ {E:X->X->ez} {e:ez} (f:∀c d,cC D 1074 1024 1 (E c d)) (g:cC D 1074 1024 1 e):∀c d,cC D 1074 1024 1 (gm E a b e c d):=λc d=>by
 unfold gm;split
 ·exact g
 exact f c d
def Cd (c:D=65536) (b:hE n ps F):∀m f g,cC D 1074 1024 1 (iI ps m f g)
 |0=>λf g=>cC.zero
 |m+1=>by
  rw[iI];by_cases i:m<ps.length
  ·rw[bX i];dsimp only;have j:=(b.ok.k _ (b3 i)).EA;have a:∀e,cC D 1074 1024 1 (aX (ps[m].d.getD e 0)):=λe=>akL c (Xj j e);by_cases h:ps[m].aY.length=2
   ·rw[aw h];exact BZ (BZ (BZ (BZ (Cd c b m) (a 0)) (a 1)) (a 1)) (a 2)
   rw[au h];exact BZ (Cd c b m) (a 0)
  rw[p2 aa];exact Cd c b m
theorem adF (d:D=65536) (s:g=(((2:Z)^D:Z):Rat)) (h:hE n ps F) (S:n<=5) (Q:a<n) (R:b<n):∃f:Z,iU ps n a b=Y f/\gH (D-3222) f/\f.natAbs<=15*2^(D+3072)/\(f:Rat)*(g*g)=gP (λC=>cX (aX C)) (λk=>cX (g2 ps a k)) (λm=>cX (g2 ps b m)) ps 0:=by
 have t:∀c∈jK n n,cC D 3222 3072 1 (oR ps n a b c)/\cX (oR ps n a b c)*(g*g)=cX (g2 ps a c.1)*cX (iI ps ps.length c.1 c.2)*cX (g2 ps b c.2):=λc e=>(by obtain⟨u,j⟩:=JJ.1 e;have j:=((PN u).1 j).2.1;obtain⟨J,p,q,o,ao,z,A,B⟩:=(L0 d h (i:=a) u).mul d (Cd d h ps.length c.1 c.2) ab ab ab;obtain⟨K,y,r,x,E,f2,G,f4⟩:=J.mul d (L0 d h (i:=b) j) ab ab ab;refine⟨K,?_⟩;obtain rfl:o=y:=gq (A.symm.trans E);have L:(o:Rat)*g=(p:Rat)*(q:Rat):=(by rw[s,<-sJ,<-sJ,B]);have M:(x:Rat)*g=(o:Rat)*(r:Rat):=(by rw[s,<-sJ,<-sJ,f4]);show cX (cJ (cJ (g2 ps a c.1) (iI ps ps.length c.1 c.2)) (g2 ps b c.2))*(g*g)=_;rw[G,ao,z,f2];show(x:Rat)*(g*g)=(p:Rat)*(q:Rat)*(r:Rat);rw[<-L,<-Rat.mul_assoc,M];grind);have I:(jK n n).length<=15:=c4 (FV n n) aa;obtain⟨N,O,v⟩:=cC.e5 (l:=(jK n n).map (oR ps n a b)) λP H=>(by obtain⟨c,e,rfl⟩:=eQ.1 H;exact(t c e).1);rw[eP] at v;have w:(iF ((jK n n).map (oR ps n a b))).natAbs<=15*2^(D+3072):=c4 v (by rw[mB];exact iY _ I);refine⟨_,?_,O,w,?_⟩
 ·unfold iU n9;rw[aw N];unfold oD;rw[aw (cC.rng d ab ab w)]
 rw[Tg λc e=>(t c e).2];exact(LL h.ok (λk=>cX (g2 ps a k)) (λm=>cX (g2 ps b m)) ps.length (bd _)).trans (by rw[hM])
theorem hE.adI (N:D=65536) (A:hE n ps F) (R:0<e):∀I∈ps,zi (λM=>eM ((aX M).getD 0,e)) I:=by
 intro I E;obtain⟨ad,Q,rfl⟩:=g1.1 E;obtain⟨d,h,am⟩:=A.ok.hl Q;have B:=A.ok.k _ E;rcases d with d|d
 ·rw[d] at h;obtain⟨i,P⟩:=p4.1 h;exact .inl ⟨d,i,P⟩
 rw[d] at h;obtain⟨i,t,u,z⟩:=Lj h;have m:=B.EA;obtain⟨an,ap,G,H⟩:=B.two d (by rw[d];exact h);rw[z] at G H m;obtain⟨f,j,g,l,v,w,x,y,K⟩:=NG N (m i ac) (m t ac) (m u ac);have C:(0:Rat)<(e:Rat):=amI.2 R;have p:=RN D;generalize O:(((2:Z)^D:Z):Rat)=o at*;have L:(f:Rat)*o=(j:Rat)*(l:Rat)-(g:Rat)*(g:Rat):=(by rw[<-O,<-aou,<-aou,<-aou,<-apM,K]);have r:(eM (j,e)*eM (l,e)-eM (g,e)*eM (g,e))*((e:Rat)*(e:Rat))=(f:Rat)*o:=(by rw[L];unfold eM;dsimp only;have:=we (aa:e≠0);grind);have S:f≠0:=λc=>G (by rw[v,c];rfl);have T:=we S;have q:(f:Rat)*o≠0:=by
  intro c;rcases sK.1 c with c|c
  ·exact T c
  rw[c] at p;exact absurd p ab
 have U:=(yN r q).1 (al2 C C);have V:=(yN (s:=(f:Rat)) rfl q).1 p;have J:(f:Rat)<0↔f<0:=(by have:=apN (a:=f) (b:=0);simpa using this);refine .inr ⟨d,i,t,u,z,?_,?_,H⟩
 ·dsimp only;rw[v,w,x,y];show eM (j,e)*eM (l,e)-eM (g,e)*eM (g,e)<0↔_;rw[U.2,<-V.2,J,(Gk (Y f)).2];exact al4
 dsimp only;rw[w,x,y];show eM (j,e)*eM (l,e)-eM (g,e)*eM (g,e)≠0;intro c;rw[c] at r;exact q (by rw[<-r];grind)
def Yk (s:hE n ps F) (bl:n<=5):∃A,xG (cU n n (λb d=>aB (iU ps n b d)),())=Y (A,())/\At (A,())=Y ((fH ps).1,(fH ps).2.1,(fH ps).2.2,()):=by
 obtain⟨D,t⟩:∃D:X,D=65536:=⟨_,bn⟩;obtain⟨j,x⟩:∃j:Rat,j=(((2:Z)^D:Z):Rat):=⟨_,bn⟩;have y:0<j:=(by rw[x];exact RN D);obtain⟨i,r⟩:∃i:X->X->Z,∀b d,b<n->d<n->iU ps n b d=some (i b d)/\gH (D-3222) (i b d)/\(i b d).natAbs<=15*2^(D+3072)/\(i b d:Rat)*(j*j)=gP (λq=>cX (aX q)) (λh=>cX (g2 ps b h)) (λl=>cX (g2 ps d l)) ps 0:=
  ⟨λb d=>(iU ps n b d).getD 0,λb d e f=>by
   obtain⟨S,I,P⟩:=adF t x s bl e f;have U:(iU ps n b d).getD 0=S:=(by rw[I];rfl);dsimp only;rw[U];exact⟨I,P⟩⟩
 have ao:cU n n (λb d=>aB (iU ps n b d))=cU n n (λb d=>aB (Y (i b d))):=wl λb e d f=>(by rw[(r b d e f).1]);obtain⟨E,av⟩:∃E:X,E=3222:=⟨_,bn⟩;obtain⟨u,an⟩:∃u:X,u=6300:=⟨_,bn⟩;have ce:∀b d,b<n->d<n->gH (D-E) (i b d)/\gb (i b d*2^E):=λb d e f=>(by refine⟨by rw[av];exact(r b d e f).2.1,cC.rng t (k:=3072+E) (c:=15) aa ab ?_⟩;rw[kz,<-uE,k2 _ (D+3072),<-uF];exact iY _ (r b d e f).2.2.1);obtain⟨o,c2,ap,a3⟩:=adW t aa (m:=n) (n:=n) aa aa ce;rw[ao];refine⟨_,a3,?_⟩;have v:(0:Z)<2^(D-o):=lz ab;have N:∀b d,b<n->d<n->i b d=i b d/2^(D-o)*2^(D-o):=λb d e f=>by
  obtain⟨ds,O⟩:=ap b d e f
  conv=>rhs;rw[O,Cf _ aa]
  exact O
 have ci:∀b d,b<n->d<n->aO (i b d/2^(D-o)).natAbs<=u:=λb d e f=>by
  have am:(i b d/2^(D-o)).natAbs<=15*2^(3072+o):=(by refine Nat.le_of_mul_le_mul_right (c:=2^(D-o)) ?_ (j8 _);rw[<-kz,<-N b d e f,uF,<-k2,(aa:3072+o+(D-o)=D+3072)];exact(r b d e f).2.2.1);refine fW.2 (Nat.lt_of_le_of_lt am (jh (show 15*2^(3072+o)<2^(4+(3072+o)) by
   rw[k2 2 4];have:=j8 (3072+o);generalize 2^(3072+o)=c1 at*;omega) (FR _ _ aa)))
 have M:∀b d,b<n->d<n->i b d=i d b:=λb d e f=>(by have H:=(r b d e f).2.2.2;have T:=(r d b f e).2.2.2;rw[CD,<-T] at H;exact aot.1 (aea y H.symm).symm);generalize L:(2:Z)^(D-o)=l at*;have bs:(0:Rat)<(l:Rat):=amI.2 v;obtain⟨P,bx,G,a0,dg,rfl⟩:=aeD (a:=λb d=>i b d/l) (n:=n) (B:=u) aa aa ci (λb d e f=>by rw[M b d e f]) (c4 (xc (aa:n-1<=4)) (by rw[an];decide));have w:=s.adI t v;obtain⟨co,cs,dl⟩:=Yl (c:=λh b=>cX (g2 ps b h)/j) (LK ps 0 w (by rw[mC];exact s.ok.len)) (λh K=>by
  rw[Uj t,alU];show(((2:Z)^D:Z):Rat)/j=1;rw[<-x];exact aeb y) (λh b e K=>by
  rw[Uk s e K];show((0:Z):Rat)/j=0;exact aec j) a0 (λb e d f=>by rw[M b d e f]) (λz=>by
  rw[RC _ _ ps 0 λl L=>(w l L).two];have a4:∀b∈bJ n,∀d∈bJ n,((i b d/l:Z):Rat)=gP (λq=>eM ((aX q).getD 0,l)) (λh=>cX (g2 ps b h)/j) (λh=>cX (g2 ps d h)/j) ps 0:=λb e d f=>(by have e:=gD.1 e;have f:=gD.1 f;have ad:(λq=>eM ((aX q).getD 0,l))=λq=>(1/(l:Rat))*cX (aX q):=(by funext q;exact RM _ _);have J:∀b,(λh=>cX (g2 ps b h)/j)=λh=>(1/j)*cX (g2 ps b h):=λb=>(by funext h;exact RM _ _);rw[ad,J b,J d,MJ,<-(r b d e f).2.2.2];have V:(i b d:Rat)=((i b d/l:Z):Rat)*(l:Rat):=(by rw[<-sJ,<-N b d e f]);rw[V];exact aed bs y);rw[adP (C:=λb h=>cX (g2 ps b h)/j) a4 z];have:(λh=>eJ (λb=>z b*(cX (g2 ps b h)/j)) (bJ n))=λh=>lf (λb=>cX (g2 ps b h)/j) z n:=(by funext h;exact(Pt _ _ _).symm);rw[this])
 obtain⟨Q,R,cv⟩:=SF (g:=λq=>eM ((aX q).getD 0,l)) (λq=>⟨(yA (p:=((aX q).getD 0,l)) v).2.1.trans (Gk _).1.symm,(yA (p:=((aX q).getD 0,l)) v).1.trans (Gk _).2.symm⟩) ps w;rw[<-co] at Q;rw[<-cs] at R;rw[s.ok.len] at cv;rw[bx,Q,R,(aa:((n-li G-kV G:X):Z)=(fH ps).2.1)]
end
def Xo {A:X->X->ez} (h:∀m o,cW (A m o)) {e:et} {a:bm eD} {n:X} (d:iu e a) (c:e.length=n) (k:n<=12) (l:fV f n):qz A f a=(r2,233,())\/∃ps g,qz A f a=(pq f ps ((g:X):Z),0,())/\hE n ps (pq f ps ((g:X):Z)):=by
 cases b:jb A a a.length with
 |none=>exact .inl (by unfold qz;rw[b])
 |some r=>
  obtain⟨j,ps⟩:=r;obtain⟨i1,i⟩:=xT h d c (bd _) b;obtain⟨p,q⟩:=IE h d c (bd _) b;have:hp n ps:=⟨i.all d c,i.dd,p,q⟩;exact .inr ⟨ps,mf j,by unfold qz;rw[b],this.Oi k l _⟩
def Ht:Ai ()=Y (bq,()):=by obtain⟨D,k⟩:∃D:X,D=65536:=⟨_,bn⟩;have i:∀m p,cW (Gq m p):=λm p=>iC _;obtain⟨_,j⟩:=xT i Gr bn (cd _) K9;obtain⟨B,C⟩:=IE i Gr bn (cd _) K9;have t:hE 2 [ha.dd [0,1]] (pq [0,1] [ha.dd [0,1]] (mf [ha.elim [0,1]]:Z)):=hp.Oi ⟨j.all Gr bn,j.dd,B,C⟩ ab Ob _;have e:=LO (n:=2) (m3.J0 ab S0) afH S0 Ob (l:=yS) (by rw[S1,S4];exact Gr);rw[S1,Xp (o:=[0,1]) (show yS.length=1 from rfl) K9] at e;have x:fH [ha.dd [0,1]]=(1,0,1):=(by have v:(ha.dd [0,1]).d=[0,mT,0]:=(by rw[adJ,La,Lb,Lc]);obtain⟨q,E,G,H,ao,g,h,I,r⟩:=NG k (a:=0) (b:=mT) (c:=0) ab ab ab;rw[Qn] at g;rw[(FP k).2] at h;cases g;cases h;have f:(0:Z)<2^D:=Int.pow_pos ab;have A:q<0:=(by refine Int.not_le.1 λs=>?_;have e:=alS s (akj f);have J:=Int.mul_pos f f;rw[r,alU,Int.zero_mul] at e;omega);have w:h1 (ja (ha.dd [0,1]).d)<0:=(by rw[v,ao];exact(Gk (Y q)).2.2 A);have u:j7 (ha.dd [0,1])=(1,0,1):=b8 ⟨bn,w⟩;unfold fH;rw[amG,amG,amG,u];rfl);have z:(pq [0,1] [ha.dd [0,1]] (mf [ha.elim [0,1]]:Z)).2.1=[2]:=rfl;generalize pq [0,1] [ha.dd [0,1]] (mf [ha.elim [0,1]]:Z)=F at*;unfold Ai;refine ai (y:=((2,(2,([0,1,1],([1],([mT],()))))),())) rfl ?_;dsimp only;refine ai e ?_;dsimp only;refine ai (Pd t) ?_;rw[x];dsimp only;rw[aZ (by rfl),aZ (by rfl),z];refine ai (Uf _ _ ab) ?_;rfl
def Ug (v:aj6) (n x:Z) (G:v.length<=9223372036854775807):Ih (v,n,x,())=Y (bq,()):=by
 unfold Ih;refine bO.1 ?_;refine bz (vS n (n:=5) ab ab) ?_;dsimp only;refine bz (vS x (n:=3) ab ab) ?_;dsimp only;refine bE (adr G _ _ bp) ?_;rintro _ ⟨a,w,u,z,m,I,g,t,M,rfl,q⟩;dsimp only;by_cases e:oW a a w u z m=0
 rotate_left
 ·have ao:=T8 t aa e I;refine bz ao ?_;dsimp only;rw[aZ (by simpa using e)];exact bz Ht (bu.2 bn)
 obtain⟨r,_,l⟩:=K2 e;have E:=LO (m3.J0 g r) t r l (q e);refine bz E ?_;rcases Xo (A:=nS (eG w u z a) m) (λc b=>iC _) (q e) (xZ l) (aa:a<=12) l with i|⟨ps,B,i,f⟩
 ·rw[i];dsimp only;rw[aZ (by rfl)];exact bz Ht (bu.2 bn)
 rw[i];generalize pq m ps ((B:X):Z)=F at*;dsimp only;rw[aW (by rfl)];refine bz (Pd f) ?_;dsimp only;refine bz (y:=.inl (F,((fH ps).1,(fH ps).2.1,(fH ps).2.2,()),())) ?_ ?_
 ·rw[aZ (by rfl)];refine ai (RJ f) ?_;dsimp only;rw[aZ (by rfl),a7,f.small.1,fL,aF bn,aW (by rfl)]
 dsimp only;refine bz (ad0 f g) ?_;dsimp only;obtain⟨N,J,K⟩:=Yk f g;have L:=BT g;generalize H:(((fH ps).1,(fH ps).2.1,(fH ps).2.2,()):Z×Z×Z×bt)=h;refine bE (P:=λo=>o=(h,cU a a (λc b=>aB (iU ps a c b)),())) ?_ ?_
 ·refine bQ a (λc p=>p=((c:Z),h,((a:Z),(a:Z),az (a*a) (λd=>aB (iU ps a (d %a) (d/a))),()),cU c a (λc b=>aB (iU ps a c b)),())) rfl ?_ ?_
  ·rintro c _ k rfl;dsimp only;rw[aZ (aF (aa:(c:Z)<(a:Z))),bc aa];refine bE (P:=λo=>o=(h,((a:Z),(a:Z),az (a*a) (λd=>aB (iU ps a (d %a) (d/a))),()),cU c a (λc b=>aB (iU ps a c b)),az a (λb=>aB (iU ps a c b)),())) ?_ ?_
   ·refine bQ a (λb p=>p=((b:Z),h,((a:Z),(a:Z),az (a*a) (λd=>aB (iU ps a (d %a) (d/a))),()),cU c a (λc b=>aB (iU ps a c b)),az b (λb=>aB (iU ps a c b)),())) rfl ?_ ?_
    ·rintro b _ s rfl;obtain⟨C,D⟩:=NM (n:=a) (j:=b) k;dsimp only;rw[aZ (aF (aa:(b:Z)<(a:Z))),bc aa,TF g s k];refine bz (y:=aB (iU ps a c b)) ?_ ?_
     ·rw[gg (gR (Hr s k)),C,D]
     rw[eS (by rw[cN];simp;omega),aE];refine bu.2 ?_;show _=_;rw[nT]
    rintro _ rfl;dsimp only;rw[aW (aA (aa:¬((a:Z)<(a:Z))))];exact bu.2 bn
   rintro _ rfl;dsimp only;rw[eS (by rw[nv];simp;omega),bK];refine bu.2 ?_;show _=_;unfold cU;rw[nT]
  rintro _ rfl;dsimp only;rw[aW (aA (aa:¬((a:Z)<(a:Z))))];exact bu.2 bn
 rintro _ rfl;dsimp only;refine bz J ?_;dsimp only;refine bz K ?_;dsimp only;rw[<-H];rw[aZ ac];exact bz Ht (bu.2 bn)
end
end Go.jy
end
