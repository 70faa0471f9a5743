/-
  Parts of the proof: Pm8, Pm9, Pm10, Pm11, Pm12, Pl13, Th2, Pl16, Pl18, Th3, Pl20, Pl21, Pl22, Pl23, Pl24, Pl25, Pl26, Pl27, Pl29, Pl30, Pl32, Pl36, Pl40, Pl41, Pl42, Pl43, Pm13, Pl46, Pl48, Pl50, Pl51, Pl54, Pm14, Pm15, Pm16, Pm17, Pm18, Pm22, Pm24, Pm25, Pm26, Pm27, Pm29, Pm30, Pm31, Pm32, Pm33, Pm34, Pm36, Pm52, Pm55, Pm57, Pm70, Pm71, Pm72, Pm73, Pm74, Pm75, Pm76, Pm77, Pm78, Pm79, Pm80, Pm81, Th5, Th6, Pm82, Pm83, Pm90, Pm41, Pm42, Pm91, Pm84, Pm92, Pm93, Pm94, Pm95, Pm99, Pm104, Pm96, Pm107, Pm45, Pm46, Pm47, Pm48: the framework (Fw), pure forms (Dn), plain laws (Pl, Th), calls of functions (Ok).
-/
import Derived.KernelRfl
import Derived.Test.YtnndjinceoekdaaGreatDoorBa91b1fcc

set_option linter.all false
set_option maxHeartbeats 1000000
open _root_ renaming Nat->X,Int->Z,Bool->bA,Unit->bt,List->bn,rfl->bo,if_pos->cc,decide_eq_true_eq->akn,congrArg->b4,decide_eq_true->aj8,decide_eq_false->akw,cond_false->bR,False->b7,if_false->akT,decide_true->akq,cond_true->bH,decide_eq_decide->akd,if_true->cg,forall_const->amT,implies_true->an1,not_true_eq_false->alK,not_not_intro->ake,beq_self_eq_true->aks,Decidable->akA,Option->bw,if_neg->cw,of_decide_eq_true->alz,and_true->ca,decide_eq_false_iff_not->anL
open Decidable renaming decide->bu
open Option renaming some->Y,bind_some->bM,map_some->al9,none->bq,bind->bC
open Go.jt.ae renaming eq_iff->bN,bs->bB,aN->bF,steps->bQ,ag->bv,e0->bX,mono->cx,e4->bZ,loop->aky,ite->akH
open List renaming getElem_mem->b5,take_add_one->aj5,getElem?_eq_getElem->b0,map_append->alJ,take_of_length_le->ck,length_filter_le->aku,filter_eq_nil_iff->amP,pairwise_iff_getElem->aj2,mem_take_iff_getElem->amQ,length_take->aki,take_sublist->ama,filter_eq_self->alp,range->bL,getD->akG,replicate->bJ,map_const'->ao8,map_congr_left->akt,getElem?_eq_none->al1,mem_cons_self->an0,pairwise_cons->alR,length_map->b9,filter_nil->ao9,getElem_set->apa,mem_singleton->cB,take_length->cy,length_set->apb,range_succ->akp,take_zero->amS,getElem_inj->amb,length_range->amW,mem_iff_getElem->ale,mem_of_find?_eq_some->apd,take_append_drop->alu,decidableBAll->apf,mem_of_getElem?->akf,drop_eq_nil_of_le->anS,drop_eq_getElem_cons->alO,not_mem_nil->amc,append_assoc->akZ,mem_map->apg,getElem?_eq_some_iff->ak2,length_cons->amC,filter_filter->amz,length_pos_of_mem->aph,pairwise_lt_range->anJ,flatMap_def->api,range'->akv,range_eq_range'->apj,nodup_range->amY,flatMap->amZ,eq_nil_iff_forall_not_mem->apk,getElem?_inj->amp,length_append->akE,map_take->an5,set_append_right->amH,length_singleton->am0,length_range'->am1,range'_concat->an6,foldl_cons->am2,length->cA,takeWhile_sublist->apl,head_dropWhile_not->apm,mem_range->apn,mem_flatMap->amd,takeWhile_append_dropWhile->apo,dropWhile_sublist->apq
open Int renaming eq_ofNat_of_zero_le->cz,toNat_natCast->akz,toNat->an2,mul_ediv_cancel->anV,mul_ne_zero->ape,mul_pos->alh,mul_zero->al6,add_mul->al8,mul_comm->alI
open Nat renaming le_refl->cd,le_trans->cu,lt_or_ge->cm,mul_add_div->anY,div_eq_of_lt->amN,mul_le_mul->anZ,sub_zero->alY,ble->b3,ble_eq_true_of_le->apc,one_mul->amX,zero_mul->al3,add_assoc->an4,add_comm->alQ,beq->bI,and_two_pow_sub_one_eq_mod->anK,mod_lt->ak8,lt_succ_self->akI
open Bool renaming true->bp,or_eq_true->ao6,false->br,true_and->alZ
open List.Sublist renaming filter->apC,append->apD,refl->apE
open List.Pairwise renaming sublist->ao7
open Go.jt.j6 renaming symm->amR
open Go.IntKind renaming u64->bE,i64->bK
open Option.some renaming injEq->alX,inj->aln
open Go.jt renaming wrap64->cq
open List.Perm renaming refl->amU,append_left->amx
open Go.Lib renaming compact->akO,keeps->amV
open List.Nodup renaming sublist->an3
open BitVec renaming ofInt->ch
noncomputable section
namespace Go.jt
variable{a b f s:X}{c n o u:aj0}{d l v:Z}{e p:ajZ}{g:Type}{i t:X->X->bA}{k:eA}{q:Z->Prop}{w:X->Prop}{x:ey}{y:X->X}{z:ajW}{N:cT}{O:aj0×bA×bt}{P:X->X->ajU}
def jy (E:bn cT) (a:Z):X:=(E.filter λb=>bu (b.2.1=a)).length
def gV (E:bn cT) (a:Z):X:=(E.filter λb=>bu (b.2.1<a)).length
def rx (d b:X) (E:bn cT):c0:=((d:Z),(b:Z),aF (b+1) (λc=>(gV E (c:Z):Z)),E.map (λa=>a.1),E.map (λa=>a.2.2.1),())
theorem Hz (E:bn cT) (a:Z):gV E (a+1)=gV E a+jy E a:=by
 unfold gV jy
 induction E with
 |nil=>rfl
 |cons b E d=>
  simp only[pD];rcases Int.lt_trichotomy b.2.1 a with c|c|c
  ·rw[ax (by simpa using(by omega:b.2.1<a+1)),ax (by simpa using c),aw (by simpa using(by omega:¬b.2.1=a))];simp only[jf];omega
  ·rw[ax (by simpa using(by omega:b.2.1<a+1)),aw (by simpa using(by omega:¬b.2.1<a)),ax (by simpa using c)];simp only[jf];omega
  rw[aw (by simpa using(by omega:¬b.2.1<a+1)),aw (by simpa using(by omega:¬b.2.1<a)),aw (by simpa using(by omega:¬b.2.1=a))];omega
def lB (c b:X) (E:bn cT):Prop:=∀a∈E,0<=a.1/\a.1<(c:Z)/\0<=a.2.1/\a.2.1<(b:Z)
def Ng (E:bn cT) (c:cT) (a:Z):jy (E++[c]) a=jy E a+if c.2.1=a then 1 else 0:=by
 unfold jy;rw[r8,hW];congr 1;by_cases b:c.2.1=a
 ·rw[ax b,GH (by simpa using b)];rfl
 rw[aw b,GG (by simpa using b)];rfl
def Vn {E:bn cT} (C:b<=200) (B:a<=200) (n:E.length<=21) (y:E.Pairwise hj) (t:lB b a E):Dy ((b:Z),(a:Z),E,())=Y (rx b a E,()):=by
 unfold Dy;refine bN.1 ?_;dsimp only;rw[ba aa];refine bB (iP aa) (bB (aeO n y) ?_);dsimp only;refine bF (P:=λr=>r=(((0:Z),((0:Z),([],([],([],()))))),((b:Z),(a:Z),aF (a+1) (λc=>if c=0 then(0:Z) else(jy E ((c:Z)-1):Z)),E.map (λe=>e.1),E.map (λe=>e.2.2.1),()),())) ?_ ?_
 ·refine bQ E.length (λd s=>s=((d:Z),((0:Z),((0:Z),([],([],([],()))))),((b:Z),(a:Z),aF (a+1) (λc=>if c=0 then(0:Z) else(jy (E.take d) ((c:Z)-1):Z)),(E.take d).map (λe=>e.1),(E.take d).map (λe=>e.2.2.1),()),E,())) ?_ ?_ ?_
  ·have j:(aF (a+1) λ_=>(0:Z))=aF (a+1) λc=>if c=0 then(0:Z) else(jy (E.take 0) ((c:Z)-1):Z):=eD λc l=>by split<;>rfl
   rw[jY,j];rfl
  ·rintro d _ k rfl;have q:=t E[d] (b5 k);obtain⟨i,w⟩:=cz q.2.2.1;dsimp only;rw[aQ (aJ (show(d:Z)<ak E by simp only[a5];omega)),jq k];have ao:aH E[d].2.1=((i+1:X):Z):=(by rw[w,ba aa]);have p:E.take (d+1)=E.take d++[E[d]]:=(by rw[aj5,b0 k];rfl);rw[eC (by simp;omega),bM,eC (by simp;omega),bM,ao];refine bB (fB (by rw[cN];omega)) (bB (gP aa) (bB (fB (by rw[cN];omega)) ?_));rw[gP aa];refine bv.2 ?_;have o:(aF (a+1) (λc=>if c=0 then(0:Z) else(jy (E.take d) ((c:Z)-1):Z))).set (i+1) (aH (if i+1=0 then(0:Z) else(jy (E.take d) (((i+1:X):Z)-1):Z)))=aF (a+1) (λc=>if c=0 then(0:Z) else(jy (E.take (d+1)) ((c:Z)-1):Z)):=by
    rw[hI];refine eD λc l=>?_;have m:∀g,jy (E.take d) g<=21:=λg=>di (mq _ _) (by rw[gK];omega);by_cases f:c=i+1
    ·subst f;rw[g9,aw aa,aw aa,ba (by have:=m (((i+1:X):Z)-1);omega),p,Ng,ax aa]
    rw[hL _ _ f];by_cases h:c=0
    ·rw[ax h,ax h]
    rw[aw h,aw h,p,Ng,aw aa,mV]
   dsimp only[al9];rw[ba aa,o,p,alJ,alJ];rfl
  rintro _ rfl;dsimp only;rw[aM (aC (show¬((E.length:Z)<ak E) by simp only[a5];omega)),ck (cd _)];exact bv.2 bo
 rintro _ rfl;dsimp only;refine bF (P:=λr=>r=(((0:Z),((0:Z),([],([],([],()))))),rx b a E,())) ?_ (by rintro _ rfl;exact bv.2 bo);have x:∀g,gV E g<=21:=λg=>cu (aku _ _) n;have m:∀g,jy E g<=21:=λg=>cu (aku _ _) n;have v:gV E 0=0:=by
  unfold gV;rw[amP.2]
  ·rfl
  intro e q;have:=t e q;simpa using this.2.2.1
 refine bQ a (λd s=>s=((d:Z),((0:Z),((0:Z),([],([],([],()))))),((b:Z),(a:Z),aF (a+1) (λc=>if c<=d then(gV E (c:Z):Z) else(jy E ((c:Z)-1):Z)),E.map (λe=>e.1),E.map (λe=>e.2.2.1),()),())) ?_ ?_ ?_
 ·have j:(aF (a+1) λc=>if c=0 then(0:Z) else(jy E ((c:Z)-1):Z))=aF (a+1) (λc=>if c<=0 then(gV E (c:Z):Z) else(jy E ((c:Z)-1):Z)):=eD λc l=>by
   by_cases f:c=0
   ·subst f;rw[ax bo,ax (bd _)];show(0:Z)=((gV E 0:X):Z);rw[v];rfl
   rw[aw f,aw aa]
  rw[j];rfl
 ·rintro d _ k rfl;dsimp only;rw[aQ (aJ (aa:(d:Z)<(a:Z))),ba aa,jq (by rw[cN];omega),jq (by rw[cN];omega),jX,jX];refine bB (fB (by rw[cN];omega)) ?_;rw[gP aa];refine bv.2 ?_;have o:(aF (a+1) (λc=>if c<=d then(gV E (c:Z):Z) else(jy E ((c:Z)-1):Z))).set (d+1) (au ((if d+1<=d then(gV E ((d+1:X):Z):Z) else(jy E (((d+1:X):Z)-1):Z))+(if d<=d then(gV E (d:Z):Z) else(jy E ((d:Z)-1):Z))))=aF (a+1) (λc=>if c<=d+1 then(gV E (c:Z):Z) else(jy E ((c:Z)-1):Z)):=by
   rw[hI];refine eD λc l=>?_;by_cases f:c=d+1
   ·subst f;have u:=Hz E (d:Z);have z:=m (d:Z);have A:=x (d:Z);rw[g9,aw aa,ax (bd _),ax (bd _),(aa:(((d+1:X):Z)-1)=(d:Z)),cD aa aa,(aa:((d+1:X):Z)=(d:Z)+1),u];omega
   rw[hL _ _ f];by_cases h:c<=d
   ·rw[ax h,ax aa]
   rw[aw h,aw aa]
  dsimp only[al9];rw[o]
 rintro _ rfl;dsimp only;rw[aM (aC (aa:¬((a:Z)<(a:Z))))];have j:aF (a+1) (λc=>if c<=a then(gV E (c:Z):Z) else(jy E ((c:Z)-1):Z))=aF (a+1) (λc=>(gV E (c:Z):Z)):=eD λc l=>(by rw[cc aa]);rw[j];exact bv.2 bo
def g5 (b c:Z) (a:cT):bA:=bu (a.2.1<b)||(bu (a.2.1=b)&&bu (a.1<c))
theorem MC {a:cT} (b:hj N a) (f:g5 l d a=bp):g5 l d N=bp:=by
 unfold g5 at*;simp only[jr,cE,akn] at*;rcases b with b|⟨c,e⟩
 ·omega
 omega
theorem Od {j i:Z}:∀{E:bn cT},E.Pairwise hj->E.filter (g5 j i)=E.take (E.filter (g5 j i)).length
 |[],_=>rfl
 |x::E,b=>by
  obtain⟨d,c⟩:=nm.1 b;by_cases a:g5 j i x=bp
  ·rw[GH a,jf,List.take_succ_cons];exact b4 _ (Od c)
  grind [amP,MC,List.filter_cons_of_neg]
theorem Hf {E:bn cT} (d:lB b a E):E.filter (g5 0 0)=[]:=by refine amP.2 λf e c=>?_;have:=d f e;unfold g5 at c;grind
theorem U6 {E:bn cT} (d:lB a b E) (c:Z):E.filter (g5 c (a:Z))=E.filter (g5 (c+1) 0):=by refine qz λf e=>?_;have:=d f e;unfold g5;grind
theorem CM {E:bn cT} (d:lB b a E) (c:Z):(E.filter (g5 c 0)).length=gV E c:=by unfold gV;congr 1;refine qz λf e=>?_;have:=d f e;unfold g5;grind
theorem Hg {j i:Z} {E:bn cT} (c:E.Pairwise hj) (h:a<E.length):g5 j i E[a]=bp↔a<(E.filter (g5 j i)).length:=by
 constructor
 ·intro b;have g:∀d∈E.take (a+1),g5 j i d=bp:=by
   grind [MC,aj2,cm,amQ]
  grind [aki,apC,ama,alp]
 intro b;have e:=Od (j:=j) (i:=i) c;have f:E[a]∈E.filter (g5 j i):=(by grind [amQ]);grind
theorem U7 {j i:Z} {E:bn cT} (o:E.Pairwise hj):(∃d:(E.filter (g5 j i)).length<E.length,E[(E.filter (g5 j i)).length].1=i/\E[(E.filter (g5 j i)).length].2.1=j/\(E.filter (g5 j (i+1))).length=(E.filter (g5 j i)).length+1)\/((∀b,(d:b<E.length)->¬(E[b].1=i/\E[b].2.1=j))/\(E.filter (g5 j (i+1))).length=(E.filter (g5 j i)).length):=by
 have p:∀e:cT,g5 j (i+1) e=bp↔g5 j i e=bp\/(e.1=i/\e.2.1=j):=λe=>(by unfold g5;grind);have w:∀e:cT,e.1=i/\e.2.1=j->¬g5 j i e=bp:=λe k d=>(by simp_all [jr,cE,akn,g5]);generalize C:(E.filter (g5 j i)).length=g;generalize D:(E.filter (g5 j (i+1))).length=l;have q:∀a,(f:a<E.length)->(g5 j i E[a]=bp↔a<g):=λa f=>(by grind [Hg]);have m:∀a,(f:a<E.length)->(g5 j (i+1) E[a]=bp↔a<l):=λa f=>(by grind [Hg]);have F:g<=E.length:=(by grind);have G:l<=E.length:=(by grind);by_cases n:∃b,∃d:b<E.length,E[b].1=i/\E[b].2.1=j
 ·obtain⟨b,h,k⟩:=n;have x:¬b<g:=λd=>w _ k ((q b h).2 d);have y:b<l:=(m b h).1 ((p _).2 (.inr k));have r:∀a,(f:a<E.length)->g<=a->a<l->a=b:=λa f A t=>by
   have u:=(p _).1 ((m a f).2 t);have B:E[a].1=i/\E[a].2.1=j:=u.resolve_left λd=>(by grind);rcases uq a b with c|c|c
   ·have:=hY.1 o a b f h c;rcases this with d|⟨d,s⟩<;>omega
   ·exact c
   have:=hY.1 o b a h f c;rcases this with d|⟨d,s⟩<;>omega
  have v:g=b:=r g aa (bd _) aa;subst v;refine .inl ⟨h,k.1,k.2,?_⟩;rcases cR (g+1) l with c|c
  ·grind
  omega
 refine .inr ⟨λb h k=>n ⟨b,h,k⟩,?_⟩;have z:∀a,a<E.length->(a<l↔a<g):=λa f=>(by grind);rcases uq l g with c|c|c
 ·grind
 ·exact c
 grind
def oH (b:X) (a:cT):X:=a.2.1.toNat*b+a.1.toNat
theorem ac7 {E:bn cT} (c:lB a b E) (d:N∈E):oH a N<a*b:=by have e:=c N d;unfold oH;have f:(N.2.1.toNat+1)*a<=b*a:=hR _ aa;grind
theorem ac6 {rows:X} {a b:Z×Z} (f:0<=a.1/\a.1<(rows:Z)/\0<=a.2) (g:0<=b.1/\b.1<(rows:Z)/\0<=b.2) (c:a.2.toNat*rows+a.1.toNat=b.2.toNat*rows+b.1.toNat):a.1=b.1/\a.2=b.2:=by have d:(a.2.toNat*rows+a.1.toNat)/rows=a.2.toNat:=(by rw[nn,anY aa,amN aa,mV]);have e:(b.2.toNat*rows+b.1.toNat)/rows=b.2.toNat:=(by rw[nn,anY aa,amN aa,mV]);grind
def oj (b:X) (E:bn cT):X->X->Z
 |0,_=>0
 |i+1,a=>if a=oH b (E.getD i (0,0,0,())) then((i+1:X):Z) else oj b E i a
theorem MX (c:X) (E:bn cT) (b:X):∀i,(oj c E i b=0/\∀a,a<i->oH c (E.getD a (0,0,0,()))≠b)\/∃a,a<i/\oH c (E.getD a (0,0,0,()))=b/\oj c E i b=((a+1:X):Z)
 |0=>.inl ⟨bo,λa e=>absurd e aa⟩
 |i+1=>by
  unfold oj;by_cases d:b=oH c (E.getD i (0,0,0,()))
  ·grind
  rw[aw d];rcases MX c E b i with⟨f,g⟩|⟨a,f,g,h⟩
  ·grind
  grind
theorem VA (b:X) (E:bn cT) (a:X):eI (oj b E a) (oH b (E.getD a (0,0,0,()))) ((a+1:X):Z)=oj b E (a+1):=by grind [oj,eI]
theorem Rs (e:b<=200) (d:a<=200) (h:f<=200):au (au ((a:Z)*(b:Z))+(f:Z))=((a*b+f:X):Z):=by have g:a*b<=200*200:=np d e;have c:(a:Z)*(b:Z)=((a*b:X):Z):=aa;rw[c,B3 aa,<-Int.natCast_add,B3 aa]
theorem IP {E:bn cT} (b:a<E.length):E.getD a (0,0,0,())=E[a]:=by grind
def j2 (E:bn cT) (b a:Z):X:=(E.filter (g5 b a)).length
def Rn (E:bn cT) (b a:Z):j2 E b a<=E.length:=mq _ _
def pk (e d:X) (E:bn cT) (a:X) (c:X):c0:=((e:Z),(d:Z),aF (a+1) (λa=>(gV E (a:Z):Z)),(E.take c).map (λb=>b.1),(E.take c).map (λb=>b.2.2.1),())
theorem acO {E:bn cT} (x:f<=200) (D:s<=200) (T:E.length<=10000) (J:E.Pairwise hj) (h:lB f s E):D8 ((f:Z),(s:Z),E,())=Y (rx f s E,()):=by
 unfold D8;refine bN.1 ?_;dsimp only;have am:f*s<=200*200:=anZ x D;have A:au ((f:Z)*(s:Z))=((f*s:X):Z):=(by rw[<-Int.natCast_mul,B3 aa]);rw[A];refine bB (iP aa) ?_;have O:gV E 0=0:=(by rw[<-CM h,Hf h];rfl);refine bF (P:=λl=>l=(((0:Z),((0:Z),([],([],([],()))))),pk f s E 0 0,aF (f*s) (oj f E E.length),())) ?_ ?_
 ·refine bQ E.length (λd m=>m=((d:Z),((0:Z),((0:Z),([],([],([],()))))),pk f s E 0 0,aF (f*s) (oj f E d),())) ?_ ?_ ?_
  ·have:pk f s E 0 0=((f:Z),((s:Z),([0],(([]:bg),(([]:bg),()))))):=by
    grind [ri,WQ,gV,pk]
   rw[jY,this];rfl
  ·rintro d _ k rfl;have g:=h E[d] (b5 k);obtain⟨M,R⟩:=cz g.1;obtain⟨N,S⟩:=cz g.2.2.1;dsimp only;rw[aQ (aJ (show(d:Z)<ak E by grind))];refine bB (eR k) (bB (eR k) ?_);have I:au (au (E[d].2.1*(f:Z))+E[d].1)=((oH f E[d]:X):Z):=by
    grind [Rs,akz,oH]
   have V:=ac7 h (cG k);grind [bv,mh,cN,hI,ba,IP,VA]
  rintro _ rfl;dsimp only;rw[aM (aC (show¬((E.length:Z)<ak E) by grind))];grind [bv]
 rintro _ rfl;dsimp only;refine bF (P:=λl=>l=(((0:Z),((0:Z),([],([],([],()))))),rx f s E,())) ?_ (by grind [bv]);refine bQ s (λc m=>m=((c:Z),((0:Z),((0:Z),([],([],([],()))))),pk f s E c (j2 E (c:Z) 0),aF (f*s) (oj f E E.length),())) ?_ ?_ ?_
 ·have:j2 E ((0:X):Z) 0=0:=by
   unfold j2;grind [Hf]
  grind
 ·rintro c _ F rfl;dsimp only;rw[aQ (aJ (aa:(c:Z)<(s:Z)))];refine bF (P:=λl=>l=(((0:Z),((0:Z),([],([],([],()))))),pk f s E c (j2 E (c:Z) (f:Z)),aF (f*s) (oj f E E.length),())) ?_ ?_
  ·refine bQ f (λd m=>m=((d:Z),((0:Z),((0:Z),([],([],([],()))))),pk f s E c (j2 E (c:Z) (d:Z)),aF (f*s) (oj f E E.length),())) rfl ?_ ?_
   ·rintro d _ k rfl;dsimp only;rw[aQ (aJ (aa:(d:Z)<(f:Z))),Rs x aa aa];have I:c*f+d<f*s:=by
     have o:(c+1)*f<=s*f:=hR _ F;grind
    rw[jq (by grind [cN]),jX];have w:=Rn E (c:Z) (d:Z);have p:=U7 (j:=(c:Z)) (i:=(d:Z)) J;change(∃n:j2 E (c:Z) (d:Z)<E.length,E[j2 E (c:Z) (d:Z)].1=(d:Z)/\E[j2 E (c:Z) (d:Z)].2.1=(c:Z)/\j2 E (c:Z) ((d:Z)+1)=j2 E (c:Z) (d:Z)+1)\/((∀u,(n:u<E.length)->¬(E[u].1=(d:Z)/\E[u].2.1=(c:Z)))/\j2 E (c:Z) ((d:Z)+1)=j2 E (c:Z) (d:Z)) at p;rw[show(d:Z)+1=((d+1:X):Z) from by omega] at p;generalize j2 E (c:Z) (d:Z)=z at*;rw[ba aa];have G:∀e,(n:e<E.length)->oH f E[e]=c*f+d->E[e].1=(d:Z)/\E[e].2.1=(c:Z):=(by intro e n ad;have g:=h E[e] (cG n);exact ac6 (rows:=f) (a:=(E[e].1,E[e].2.1)) (b:=((d:Z),(c:Z))) ⟨g.1,g.2.1,g.2.2.1⟩ ⟨aa,aa,aa⟩ (by grind [oH]));rcases MX f E (c*f+d) E.length with⟨L,av⟩|⟨e,t,y,K⟩
    ·rw[L];rcases p with⟨o,r,B,C⟩|⟨o,r⟩
     ·grind [akz,IP,oH,absurd]
     rw[aM (aC aa)];grind [bv,bB]
    rw[K];rw[IP t] at y;obtain⟨ay,ap⟩:=G e t y;rcases p with⟨o,r,B,C⟩|⟨o,r⟩
    ·have H:e=z:=by
      rcases uq e z with q|q|q
      ·grind [aj2,hj]
      ·exact q
      grind [aj2,hj]
     subst H;rw[aQ (aJ aa),(aa:((e+1:X):Z)-1=(e:Z)),B3 aa];unfold pk;dsimp only;rw[eC (by grind),bM];have an:E.take (e+1)=E.take e++[E[e]]:=(by simp_all);rw[eR t,bM,eC (by grind),bM,bM];grind [bv]
    grind
   rintro _ rfl;dsimp only;rw[aM (aC (aa:¬((f:Z)<(f:Z))))];grind [bv]
  rintro _ rfl;have w:=Rn E (c:Z) (f:Z);have ao:j2 E (c:Z) (f:Z)=j2 E ((c+1:X):Z) 0:=(by grind [U6,j2]);have Q:j2 E ((c+1:X):Z) 0=gV E ((c+1:X):Z):=CM h _;rw[ao] at w|-;unfold pk;dsimp only;have U:ak ((E.take (j2 E ((c+1:X):Z) 0)).map λv=>v.1)=(gV E ((c+1:X):Z):Z):=(by grind);grind [bv,eC,cN,ri,ba]
 rintro _ rfl;dsimp only;rw[aM (aC (aa:¬((s:Z)<(s:Z))))];have ao:j2 E (s:Z) 0=E.length:=(by unfold j2;rw[alp.2];intro v g;have:=h v g;simp_all [ao6,Bool.and_eq_true,akn,g5]);have:pk f s E s (j2 E (s:Z) 0)=rx f s E:=(by simp_all [ck,cd,pk,rx]);grind [bv]
theorem w8 {E:bn cT} (h:E.Pairwise hj) (e:lB f b E) (g:a<E.length) (c:Z):E[a].2.1<c↔a<gV E c:=by have d:=Hg (j:=c) (i:=0) h g;rw[CM e] at d;rw[<-d];have:=e E[a] (cG g);unfold g5;grind
theorem Nb {E:bn cT} (c:lB b a E):gV E 0=0:=by rw[<-CM c,Hf c];rfl
theorem Na {E:bn cT} (c:lB b a E):gV E (a:Z)=E.length:=by unfold gV;rw[mU.2];intro e d;have:=c e d;grind
theorem WO {c:X->Z} (d:a<b):(aF b c).getD a 0=c a:=by grind [j9]
theorem EU {E:bn cT} (c:a<E.length):(E.map λb=>b.1).getD a 0=E[a].1:=by grind
theorem Xs {E:bn cT} (c:a<E.length):(E.map λb=>b.2.2.1).getD a 0=E[a].2.2.1:=by grind
def wj (a:X) (E:bn cT):aj0:=aF (a+1) (λb=>(gV E (b:Z):Z))
theorem wk {E:bn cT} (c:a<=b):(wj b E).getD a 0=(gV E (a:Z):Z):=WO aa
theorem Hy (E:bn cT) (a:Z):gV E a<=E.length:=mq _ _
theorem ae2 {E:bn cT} (i:E.Pairwise hj) (d:lB b a E):gn b a (wj a E) (E.map λj=>j.1) (E.map λj=>j.2.2.1) where
 len:=cN _ _
 first:=by rw[wk (c5 _)];grind [Nb]
 mono:=λe k=>by grind [wk,Hz]
 last:=by rw[wk (bd _),Na d,eM]
 val:=by simp
 rng:=λe f k g h=>by rw[wk aa] at g h;have c:f<E.length:=(by grind [Hy]);rw[EU c];have:=d E[f] (cG c);omega
 asc:=λe f k g h=>by rw[wk aa] at g h;have c:f<E.length:=(by grind [Hy]);rw[EU c,EU aa];have l:=w8 i d c (e:Z);have m:=w8 i d c ((e+1:X):Z);have n:=w8 i d (aa:f-1<E.length) (e:Z);grind [aj2,w8,hj]
theorem K6 {rows eH:X} {E:bn cT} (c:rows<=200) (b:eH<=200) (f:E.length<=10000) (e:∀a∈E,c9 a.2.2.1):g4 rows eH (wj eH E) (E.map λa=>a.1) (E.map λa=>a.2.2.1) where
 hr:=c
 hc:=b
 hi:=by grind
 hs:=by grind [cN,wj]
 hv:=by grind
 hw:=λg d=>by grind
def Im (c f:aj0) (d:Z) (b a:X):iW c f d b a=aF a λe=>(c.getD (b+e) 0,d,f.getD (b+e) 0,()):=by
 induction a with
 |zero=>rfl
 |succ a g=>rw[iW,g,ri]
theorem Wx {E:bn cT} (i:E.Pairwise hj) (h:lB b a E):∀c,c<=a->c3 (wj a E) (E.map λf=>f.1) (E.map λf=>f.2.2.1) c=E.take (gV E (c:Z)):=by
 intro c
 induction c with
 |zero=>
  intro _;show[]=E.take (gV E 0);grind [Nb]
 |succ c q=>
  intro t;rw[c3,q aa,wk aa,wk aa,Im,fF,fF];have n:gV E ((c+1:X):Z)=gV E (c:Z)+jy E (c:Z):=(by grind [Hz]);have o:=Hy E ((c+1:X):Z);have j:∀d,(e:d<E.length)->gV E (c:Z)<=d->d<gV E ((c+1:X):Z)->E[d].2.1=(c:Z):=λd e l m=>(by have r:=w8 i h e (c:Z);have s:=w8 i h e ((c+1:X):Z);omega);rw[n] at j o|-;generalize gV E (c:Z)=k at*;generalize jy E (c:Z)=g at*;rw[Nat.add_sub_cancel_left,List.take_add];congr 1;have p:((E.drop k).take g).length=g:=(by grind);refine wJ (by rw[cN,p]) λu l m=>?_;grind [jX,EU,Xs,cN]
def In {E:bn cT} (e:E.Pairwise hj) (d:lB b a E):c3 (wj a E) (E.map λc=>c.1) (E.map λc=>c.2.2.1) a=E:=by rw[Wx e d a (bd _),Na d,fW (bd _)]
theorem WZ {E:bn cT} (b:∀a∈E,cS a.2.2.1≠2047):n0 (E.map λa=>a.2.2.1):=by intro d c;grind
def Hv {E:bn cT} (f:E.Pairwise hj) (e:lB b a E) (d:∀c∈E,cS c.2.2.1≠2047):fQ b a (wj a E) (E.map λc=>c.1) (E.map λc=>c.2.2.1)=0:=
 jU.2 ⟨ae2 f e,WZ d⟩
theorem re (e:gn b a c n o):lB b a (c3 c n o a):=by intro l f;obtain⟨d,g,f⟩:=A4.1 f;obtain⟨h,i,rfl⟩:=vM.1 f;have j:=e.pos d aa;have k:=e.pos (d+1) aa;have:=e.rng d ((c.getD d 0).toNat+h) g aa aa;grind
theorem p1 (d:gn b a o n c) (j:∀h∈c,q h):∀g∈c3 o n c a,q g.2.2.1:=by intro g f;obtain⟨e,i,f⟩:=A4.1 f;obtain⟨s,k,rfl⟩:=vM.1 f;have p:=d.pos e aa;have r:=d.pos (e+1) aa;have l:=d.qa (e+1) aa;have m:=d.val;grind
theorem EJ (b:n0 c):∀a∈c,cS a≠2047:=by intro a e;obtain⟨f,d,rfl⟩:=hG.1 e;have:=b f d;grind
def tn (a:cT):bA:=bu (a.1>=a.2.1)
def fK (E:bn cT):bn cT:=E.filter tn
def ym {E:bn cT} (a:E.Pairwise hj):(fK E).Pairwise hj:=ao7 Cn a
def yl {E:bn cT} (c:lB b a E):lB b a (fK E):=λe d=>c e (iF.1 d).1
def YH {E:bn cT}:∀a∈fK E,a.2.1<=a.1:=λa b=>by have:=(iF.1 b).2;unfold tn at this;simpa using this
def SP {b:g->bA} {E:bn g} (d:a<E.length):(E.take (a+1)).filter b=(E.take a).filter b++(if b E[a]=bp then[E[a]] else[]):=by
 rw[iG,bk d,r8];congr 1;show[E[a]].filter b=_;by_cases c:b E[a]=bp
 ·rw[ax c,GH c];rfl
 rw[aw c,GG c];rfl
def JH:∀(a:ajZ) (b:X),a.Pairwise (· < ·)->(∀x∈a,x<b)->a.length<=b
 |[],_,_,_=>c5 _
 |x::a,b,i,d=>by
  obtain⟨c,j⟩:=nm.1 i;have p:=d x ac;have:=JH (a.map λf=>f-(x+1)) (b-(x+1)) (by
   rw[qE];refine Cm ?_ j;intro h m k o n;have:=c h k;omega) (by
   intro f l;obtain⟨g,e,rfl⟩:=fe.1 l;have:=c g e;have:=d g (by simp[e]);omega)
  rw[eM] at this;rw[jf];omega
def JR (a:Z):Z:=if a=0 then 0 else if a=1 then 5 else if a=2 then 9 else if a=3 then 12 else if a=4 then 14 else 15
def YJ (s:a<=6) {E:bn cT} (o:E.Pairwise hj) (c:lB a a E) (d:∀b∈E,b.2.1<=b.1):E.length<=21:=by
 have m:=JH (E.map λb=>(JR b.2.1+b.1).toNat) 21 (by
  rw[qE];refine Cm ?_ o;intro e f g h n;have k:=c e g;have q:=c f h;have l:=d e g;have r:=d f h;unfold hj at n;unfold JR;split<;>split<;>(try split)<;>(try split)<;>(try split)<;>(try split)<;>(try split)<;>(try split)<;>(try split)<;>(try split)<;>omega) (by
  intro t p;obtain⟨j,i,rfl⟩:=fe.1 p;have k:=c j i;have l:=d j i;unfold JR;split
  ·omega
  split
  ·omega
  split
  ·omega
  split
  ·omega
  split<;>omega)
 rwa[eM] at m
structure lT (n:X) (st h2 ni:aj0):Prop where
 yv:n<=7
 el:(fK (c3 st h2 ni n)).length<=21
def lT.ZF (d:a<=6) (b:fQ a a n c o=0):lT a n c o:=
 ⟨aa,di (YJ d (ym (rf (jU.1 b).1 a (bd _))) (yl (re (jU.1 b).1)) YH) ab⟩
def lT.Fw {n:X} (b:n<=5) (a:fQ n n o c u=0):lT n o c u:=lT.ZF (di b ab) a
def T0 (h:lT a n c o) (b:g4 a a n c o) (j:fQ a a n c o=0):Dx (((a:Z),(a:Z),n,c,o,()),())=Y (rx a a (fK (c3 n c o a)),0,()):=by
 have f:=(jU.1 j).1;have k:=rf f a (cd _);have l:=re f;have s:=h.el;have t:=h.yv;have r:(c3 n c o a).length<=10000:=(by rw[AH f a (cd _)];have:=f.qa a (cd _);have:=b.hi;omega);unfold Dx;refine af b.check ?_;dsimp only;rw[j,fq,aJ bo];refine af (Io f b.hc b.hi) ?_;dsimp only;generalize c3 n c o a=E at*;refine bN.1 ?_;refine bF (P:=λm=>m=(((0:Z),((0:Z),([],([],([],()))))),fK E,())) ?_ ?_
 ·refine bQ E.length (λd p=>p=((d:Z),((0:Z),((0:Z),([],([],([],()))))),fK (E.take d),E,())) rfl ?_ ?_
  ·rintro d _ i rfl;dsimp only;rw[aQ (aJ (show(d:Z)<ak E by simp only[a5];omega)),jq i,ba aa];have q:(fK (E.take d)).length<=10000:=cu (aku _ _) (by rw[aki];omega);unfold fK at*;rw[SP i];by_cases g:tn E[d]=bp
   ·have e:=g;unfold tn at e;rw[aQ e,ax g,eC (by simp only[jf,pF];omega)];exact bv.2 bo
   have e:=g;unfold tn at e;rw[aM (by simpa using e),aw g,pB];exact bv.2 bo
  rintro _ rfl;dsimp only;rw[aM (aC (show¬((E.length:Z)<ak E) by simp only[a5];omega)),ck (cd _)];exact bv.2 bo
 rintro _ rfl;dsimp only;exact bB (Vn b.hr b.hc aa (ym k) (yl l)) (bv.2 bo)
def Kz (i:lT a n c o) (e:g4 a a n c o) (h:fQ a a n c o=0):sQ (((a:Z),(a:Z),n,c,o,()),())=Y (rx a a (fK (c3 n c o a)),0,()):=by
 have g:=(jU.1 h).1;have k:=rf g a (cd _);have l:=re g;have s:=i.el;have t:=i.yv;have r:(c3 n c o a).length<=10000:=(by rw[AH g a (cd _)];have:=g.qa a (cd _);have:=e.hi;omega);unfold sQ;refine af e.vZ ?_;dsimp only;rw[h,fq,aJ bo];refine af (RF e h) ?_;dsimp only;generalize c3 n c o a=E at*;refine bN.1 ?_;refine bF (P:=λm=>m=(((0:Z),((0:Z),([],([],([],()))))),fK E,())) ?_ ?_
 ·refine bQ E.length (λb p=>p=((b:Z),((0:Z),((0:Z),([],([],([],()))))),fK (E.take b),())) rfl ?_ ?_
  ·rintro b _ j rfl;dsimp only;rw[aQ (aJ (show(b:Z)<ak E by simp only[a5];omega)),eR j,ba aa];have q:(fK (E.take b)).length<=10000:=cu (aku _ _) (by rw[aki];omega);unfold fK at*;rw[SP j];by_cases f:tn E[b]=bp
   ·have d:=f;unfold tn at d;rw[aI,aI,aQ d,ax f,aI,eC (by simp only[jf,pF];omega)];exact bv.2 bo
   have d:=f;unfold tn at d;rw[aI,aI,aM (by simpa using d),aw f,pB];exact bv.2 bo
  rintro _ rfl;dsimp only;rw[aM (aC (show¬((E.length:Z)<ak E) by simp only[a5];omega)),ck (cd _)];exact bv.2 bo
 rintro _ rfl;dsimp only;exact bB (acO e.hr e.hc aa (ym k) (yl l)) (bv.2 bo)
def ke (b:eA) (a:aj0):ey:=(bL a.length).map λ(c:X)=>(bL a.length).map λ(d:X)=>bu (a.getD d 0∈b.getD (a.getD c 0).toNat [])
theorem ya (b:eA) (a:aj0):(ke b a).length=a.length:=by simp[ke]
theorem Hi (d:a<c.length) (e:b<c.length):hy (ke k c) a b=bu (c.getD b 0∈k.getD (c.getD a 0).toNat []):=by grind [akG,hy,ke]
theorem afc (f:0<=d/\d<k.length) (g:0<=l/\l<k.length):∃a,aj (oR k) d=Y a/\aj a l=Y (bu (l∈k.getD d.toNat [])):=by
 have c:d.toNat<k.length:=aa;have e:l.toNat<k.length:=aa;refine⟨(bL k.length).map λ(b:X)=>bu ((b:Z)∈k[d.toNat]),?_,?_⟩
 ·simp_all [ax,SO,aj]
 unfold aj;grind
theorem TV (B:fa k) (w:∀c∈k,c.length<4611686018427387904) (G:k.length<=200) (s:∀m∈c,0<=m/\m<(k.length:Z)) (D:c.Nodup) (R:c.length<=400):Eb ((k,()),c,())=Y ((jZ (ke k c),()),0,()):=by
 classical
 rw[<-bN];unfold Eb;have C:it k=0:=(by simp_all [aw,ax,it]);have ao:bu (∀m∈c,0<=m/\m<(k.length:Z))=bp:=aj8 s;have A:bu (¬c.Nodup)=br:=akw (λb=>b D);simp only[BE k w,C,Ub c _ aa,ao,Ul c aa,A,L4 w G (λg K=>(B.asc g K).2),NT c.length aa,aI,bne_self_eq_false,bR,gI];simp only[bX];refine cx (P:=λu=>u.2.1=ke k c) ?_ ?_
 ·refine ae.for (i0:=0) c.length (λa v=>v.2.1=(bL c.length).map λ(g:X)=>if g<a then(ke k c).getD g [] else bJ c.length br) rfl ?_ (c5 _) ?_ ?_
  ·apply il;grind
  ·rintro a ⟨x,o,_⟩ _ i e;simp only at e;simp only[bZ,bX];refine⟨λ_=>?_,λp=>by grind⟩;refine cx (P:=λu=>u.2.1=(bL c.length).map λ(g:X)=>if g<a+1 then(ke k c).getD g [] else bJ c.length br) ?_ (by grind [iS,bv]);refine ae.for (i0:=0) c.length (λd v=>v.2.1=o.set a ((bL c.length).map λ(h:X)=>if h<d then hy (ke k c) a h else br)) rfl ?_ (c5 _) ?_ ?_
   ·show o=_;apply il;intro f;rw[wL];by_cases l:a=f
    ·subst l;rw[ax bo,e];simp[i,ao8]
    grind
   ·rintro d ⟨O,n,_⟩ _ r j;simp only at j;have L:=s _ (cG i);have M:=s _ (cG r);obtain⟨N,H,I⟩:=afc L M;have S:n.length=c.length:=(by grind);have q:a<n.length:=aa;have J:n[a]=(bL c.length).map λ(h:X)=>if h<d then hy (ke k c) a h else br:=by
     grind
    have E:aj c (a:Z)=Y c[a]:=fu (bk i);have F:aj c (d:Z)=Y c[d]:=fu (bk r);simp only[bZ,bX,ae.EZ,E,F,H,I,bv,ae.CJ,ae.Jt,fF];refine⟨λ_=>⟨⟨aa,q⟩,q,⟨aa,by grind⟩,q,by grind,iS aa,?_⟩,λp=>by grind⟩;rw[J,j,List.set_set];congr 1;apply il;intro f;rw[wL,jI,jI];rcases cR f c.length with b|b
    ·rw[zg b];simp only[jv,eM,pG];by_cases l:d=f
     ·subst l;have y:c.getD d 0=c[d]:=(by grind);have z:c.getD a 0=c[a]:=(by grind);rw[ax bo,ax b,ax aa,Hi i r,y,z]
     grind
    grind
   rintro⟨O,n,_⟩ j;simp only at j;simp only[bZ,bv];refine⟨λp=>by grind,λ_=>?_⟩;rw[j,e];apply il;intro f;rw[wL,jI,jI];rcases cR f c.length with b|b
   ·rw[zg b];simp only[jv,eM,pG];by_cases l:a=f
    ·subst l;rw[ax bo,ax b,ax aa];congr 1;have:(ke k c).getD a []=(bL c.length).map λ(h:X)=>hy (ke k c) a h:=by
      have Q:(ke k c).getD a []=(bL c.length).map λ(d:X)=>bu (c.getD d 0∈k.getD (c.getD a 0).toNat []):=(by simp[ke,akG,i]);grind [Hi,akt]
     simp_all
    grind
   grind
  rintro⟨x,o,_⟩ e;simp only at e;simp only[bZ,bv];refine⟨λp=>by grind,λ_=>?_⟩;rw[e];apply il;intro f;rw[jI];rcases cR f c.length with b|b
  ·simp_all [ax,bk,ya,jv,zg,akG]
  grind [al1,ya]
 rintro⟨x,o,_⟩ e;simp only at e;subst e;rw[LN]
 ·grind [bv]
 ·intro N t;unfold ke at t;simp only[fe] at t;obtain⟨a,_,rfl⟩:=t;simp[ke]
 grind [ya]
section
inductive iH (A:X->X->Prop) (P:X->Prop):X->X->Prop
 |one {i j:X}:A i j->iH A P i j
 |step {i m j:X}:A i m->P m->iH A P m j->iH A P i j
section
variable {A:X->X->Prop} {P:X->Prop}
theorem iH.trans (c:iH A P b a) (e:P a) (d:iH A P a f):iH A P b f:=by
 induction c with
 |one c=>exact .step c e d
 |step c g _ h=>exact .step c g (h e d)
def iH.symm (f:∀d e,A d e->A e d) (c:iH A P a b):iH A P b a:=by
 induction c with
 |one c=>exact .one (f _ _ c)
 |step c g _ h=>exact h.trans g (.one (f _ _ c))
theorem iH.mono (f:∀d,P d->w d) (c:iH A P a b):iH A w a b:=by
 induction c with
 |one c=>exact .one c
 |step c e _ g=>exact .step c (f _ e) g
def iH.insert_iff:iH A (λg=>P g\/g=f) a b↔iH A P a b\/(iH A P a f/\iH A P f b):=by
 constructor
 ·intro c
  induction c with
  |one c=>exact .inl (.one c)
  |@step a m b c h _ d=>
   rcases h with h|rfl
   ·rcases d with d|⟨l,i⟩
    ·exact .inl (.step c h d)
    exact .inr ⟨.step c h l,i⟩
   rcases d with d|⟨_,i⟩
   ·exact .inr ⟨.one c,d⟩
   exact .inr ⟨.one c,i⟩
 rintro(c|⟨j,k⟩)
 ·exact c.mono λg e=>.inl e
 exact(j.mono λg e=>.inl e).trans (.inr bo) (k.mono λg e=>.inl e)
def iH.none:iH A (λ_=>b7) a b↔A a b:=by
 constructor
 ·intro c;cases c with
  |one c=>exact c
  |step _ c _=>exact c.elim
 exact .one
theorem Tj:qO A f a b↔iH A (λg=>g<f) a b:=by
 constructor
 ·intro c
  induction c with
  |one c=>exact .one c
  |step c d _ e=>exact .step c d e
 intro c
 induction c with
 |one c=>exact .one c
 |step c d _ e=>exact .step c d e
end
end
section
theorem aeQ:∀{b a:aj0},b.Pairwise (· < ·)->a.Pairwise (· < ·)->(∀c,c∈b↔c∈a)->b=a:=by
 intro b
 induction b with
 |nil=>
  intro a _ _ d;cases a with
  |nil=>rfl
  |cons e a=>grind [an0]
 |cons c b h=>
  intro a f g d;cases a with
  |nil=>grind
  |cons e a=>
   grind [an0,alR]
structure y6 (m4:eA) (S:X->Prop) (T:ey) (gone:ajW):Prop where
 Gn:T.length=m4.length
 rows:∀v,(h:v<T.length)->T[v].length=m4.length
 vz:gone.length=m4.length
 OE:∀v,(h:v<gone.length)->(gone[v]=bp↔S v)
 Lf:∀u w,(agJ:u<T.length)->(hw:w<T[u].length)->¬S u->¬S w->(T[u][w]=bp↔u≠w/\iH (j6 m4) S u w)
def lL (b:ey) (c:ajW) (e d:X):aj0:=((bL d).filter λa=>hy b e a&&!c.getD a br).map λ(a:X)=>(a:Z)
theorem Jv {a:X->Prop} (b:y6 k a x z) {v w:X} (l:v<k.length) (g:¬a v):(w:Z)∈lL x z v k.length↔w<k.length/\¬a w/\v≠w/\iH (j6 k) a v w:=by
 unfold lL;simp only[fe,iF,jJ,cE,tX];have m:∀w,w<k.length->((hy x v w=bp/\z.getD w br=br)↔¬a w/\v≠w/\iH (j6 k) a v w):=by
  intro w h;have e:v<x.length:=(by rw[b.Gn];exact l);have f:w<x[v].length:=(by rw[b.rows v e];exact h);have i:w<z.length:=(by rw[b.vz];exact h);have j:z.getD w br=z[w]:=(by grind);rw[xb e f,j,Bool.eq_false_iff,ne_eq,b.OE w i];constructor
  ·rintro⟨c,d⟩;exact⟨d,(b.Lf v w e f g d).1 c⟩
  rintro⟨c,d⟩;exact⟨(b.Lf v w e f g c).2 d,c⟩
 grind
theorem JI (b:ey) (c:ajW) (d a:X):(lL b c d a).length<=a:=by grind [cu,aku,b9,lL]
theorem JJ (e:d∈lL x z b a):∃c:X,d=(c:Z)/\c<a:=by grind [lL]
theorem LV (l:x.length=b) (u:∀a,(e:a<x.length)->x[a].length=b) (n:z.length=b) (s:b<=4294967296) (v:a<b):As (Y (x,z,()),(a:Z),())=Y (lL x z a b,()):=by
 rw[<-bN];unfold As;have r:hB=4294967296:=rfl;simp only[bX,bv];refine cx (P:=λd=>d.1=lL x z a b) ?_ (by grind);refine ae.for (i0:=0) b (λi k=>k.1=lL x z a i) rfl rfl (c5 _) ?_ ?_
 ·rintro c ⟨j,_⟩ _ w f;simp only at f;have t:=JI x z a c;simp only[aI];rw[bZ];refine⟨λ_=>?_,λm=>by grind⟩;rw[bX,bX];have g:a<x.length:=aa;have h:c<x[a].length:=(by grind);have o:aj x (a:Z)=Y x[a]:=fu (bk g);have p:aj x[a] (c:Z)=Y x[a][c]:=fu (bk h);have q:aj z (c:Z)=Y (z.getD c br):=fu (by grind);refine cx (P:=λd=>d=((hy x a c&&!z.getD c br),j,())) ?_ ?_
  ·simp_all [bX,bZ,bv,xb]
  rintro _ rfl;simp only[bZ,bX,bv,ae.yh];refine⟨λe=>⟨by grind,iS aa,?_⟩,λe=>⟨iS aa,?_⟩⟩
  ·simp_all [ax,pD,ao9,j5,r8,j4,lL]
  simp_all [j5,r8,j4,pD,ao9,aw,lL]
 simp_all [aI,bZ,bv]
theorem Va (e:a<x.length) (f:b<x[a].length) (c d:X):hy (x.set a (x[a].set b bp)) c d=(hy x c d||(c==a&&d==b)):=by grind [hy]
theorem P1 (a:ey) (b:ajW) (d c:X):(lL a b d c).Pairwise (· < ·):=K7 _ _
theorem TF (K:x.length=a) (O:∀b,(g:b<x.length)->x[b].length=a) (ap:z.length=a) (av:a<=4294967296) (a0:b<a):ae (Ar ((x,z,()),(b:Z),())) (λp=>p.1.2.1=z.set b bp/\p.1.1.length=a/\(∀b,(g:b<p.1.1.length)->p.1.1[b].length=a)/\∀d c,d<a->c<a->(hy p.1.1 d c=bp↔hy x d c=bp\/((d:Z)∈lL x z b a/\(c:Z)∈lL x z b a/\d≠c))):=by
 unfold Ar;simp only[LV K O ap av a0,aI];have am:=JI x z b a;have E:∀I∈lL x z b a,∃c:X,I=(c:Z)/\c<a:=λI Q=>JJ Q;have an:=P1 x z b a;generalize lL x z b a=f at am E an;have a1:∀l m:X,(g:l<f.length)->(ad:m<f.length)->f[l]=f[m]->l=m:=λl m g ad J=>by
  rcases uq l m with C|C|C
  ·grind [aj2]
  ·exact C
  grind [aj2]
 simp only[bX];refine cx (P:=λe:dN×bt=>e.1.2.1=z/\e.1.1.length=a/\(∀b,(g:b<e.1.1.length)->e.1.1[b].length=a)/\∀d c,d<a->c<a->(hy e.1.1 d c=bp↔hy x d c=bp\/((d:Z)∈f/\(c:Z)∈f/\d≠c))) ?_ ?_
 ·refine ae.for (i0:=0) f.length (λh e=>e.1.2.1=z/\e.1.1.length=a/\(∀b,(g:b<e.1.1.length)->e.1.1[b].length=a)/\∀d c,d<a->c<a->(hy e.1.1 d c=bp↔hy x d c=bp\/((d:Z)∈f.take h/\(c:Z)∈f/\d≠c))) rfl ⟨bo,K,O,λd c _ _=>by simp⟩ (c5 _) ?_ ?_
  ·rintro h ⟨⟨R,S,_⟩,_⟩ _ H ⟨q,r,s,D⟩;simp only at q r s D;simp only[bZ,bX];refine⟨λ_=>?_,λM=>by grind⟩;refine cx (P:=λe:dN×bt=>e.1.2.1=z/\e.1.1.length=a/\(∀b,(g:b<e.1.1.length)->e.1.1[b].length=a)/\∀d c,d<a->c<a->(hy e.1.1 d c=bp↔hy x d c=bp\/((d:Z)∈f.take (h+1)/\(c:Z)∈f/\d≠c))) ?_ (by grind [iS,bv]);obtain⟨j,L,a4⟩:=E _ (cG H);refine ae.for (i0:=0) f.length (λk e=>e.1.2.1=z/\e.1.1.length=a/\(∀b,(g:b<e.1.1.length)->e.1.1[b].length=a)/\∀d c,d<a->c<a->(hy e.1.1 d c=bp↔hy x d c=bp\/((d:Z)∈f.take h/\(c:Z)∈f/\d≠c)\/(d=j/\(c:Z)∈f.take k/\d≠c))) rfl ⟨q,r,s,λd c v w=>by grind⟩ (c5 _) ?_ ?_
   ·rintro k ⟨⟨A,T,_⟩,_⟩ _ u ⟨i,n,o,y⟩;simp only at i n o y;obtain⟨B,F,bl⟩:=E _ (cG u);have U:aj f (h:Z)=Y (j:Z):=fu (by rw[bk H,L]);have V:aj f (k:Z)=Y (B:Z):=fu (by rw[bk u,F]);have t:j<A.length:=aa;have G:B<A[j].length:=(by grind);simp only[bZ,bX,U,V,bv,ae.EZ,ae.CJ,ae.Jt,fF];refine⟨λ_=>⟨λN=>⟨⟨aa,t⟩,t,⟨aa,G⟩,t,G,iS aa,i,by grind,λI Q=>?_,λd c v w=>?_⟩,λbs=>⟨iS aa,i,n,o,λd c v w=>?_⟩⟩,λM=>by grind⟩
    ·rw[apa];grind
    ·have N:h≠k:=(by grind);have a3:j≠B:=λJ=>N (a1 h k H u (by rw[L,F,J]));rw[Va t G,jr,y d c v w,<-tQ u,F,ha,fg];grind
    grind [tQ,cB]
   rintro⟨⟨A,T,_⟩,_⟩ ⟨i,n,o,y⟩;simp only at i n o y;simp only[bZ,bv];refine⟨λM=>by grind,λ_=>⟨i,n,o,λd c v w=>?_⟩⟩;grind [cy,tQ,cB]
  rintro⟨⟨R,S,_⟩,_⟩ ⟨q,r,s,D⟩;simp only at q r s D;simp only[bZ,bv];grind
 grind [bX,ae.EZ,ae.CJ,bv,ae.Jt,akz]
theorem TE (F:fa k) (G:k.length<=4294967296) (b:y6 k w x z) (j:a<k.length) (p:¬w a):ae (Ar ((x,z,()),(a:Z),())) (λB=>y6 k (λg=>w g\/g=a) B.1.1 B.1.2.1):=by
 refine(TF b.Gn b.rows b.vz G j).mono ?_;rintro⟨⟨M,h,_⟩,_⟩ ⟨l,m,n,o⟩;simp only at l m n o|-;subst l;have s:=amR F;refine⟨m,n,by rw[apb];exact b.vz,λg N=>?_,λc e H I q r=>?_⟩
 ·rw[apa];by_cases J:a=g
  ·grind
  rw[aw J,b.OE];grind
 have t:c<k.length:=aa;have v:e<k.length:=(by grind);have:=o c e t v;rw[xb H I] at this;have i:c<x.length:=(by rw[b.Gn];omega);have u:e<x[c].length:=(by rw[b.rows c i];omega);have y:¬w c:=λd=>q (.inl d);have A:¬w e:=λd=>r (.inl d);have K:a≠c:=λd=>q (.inr d.symm);have L:a≠e:=λd=>r (.inr d.symm);rw[this,xb i u,b.Lf c e i u y A,Jv b j p,Jv b j p,iH.insert_iff];constructor
 ·rintro(⟨h,f⟩|⟨⟨_,_,_,f⟩,⟨_,_,_,D⟩,E⟩)
  ·grind
  exact⟨E,.inr ⟨f.symm s,D⟩⟩
 rintro⟨h,f|⟨f,C⟩⟩
 ·grind
 exact .inr ⟨⟨t,y,K,f.symm s⟩,⟨v,A,L,C⟩,h⟩
theorem Tw (e:fa k) (j:∀n∈k,n.length<4611686018427387904) (l:k.length<=200):ae (Ec ((k,()),())) (λg=>y6 k (λ_=>b7) g.1.1 g.1.2.1):=by
 unfold Ec;have o:hB=4294967296:=rfl;simp only[L4 j l (λc m=>(e.asc c m).2),aI,bX,ae.Js,bv,fF];refine⟨⟨aa,aa,aa⟩,Ld k,λc i=>?_,ac,λc i=>by simp,λb d p q _ _=>?_⟩
 ·simp[oR]
 rw[iH.none];have f:b<k.length:=(by grind [Ld]);have r:d<k.length:=(by grind [oR]);have h:(oR k)[b][d]=bu ((d:Z)∈k[b]):=(by grind [oR,akG]);rw[h,akn];constructor
 ·exactλa=>⟨j6.ne e ⟨f,a⟩,f,a⟩
 exactλa=>a.2.2
open Classical in
theorem adS (i:fa k) (j:∀s∈k,s.length<4611686018427387904) (p:k.length<=200):At ((k,()),())=Y ((bL k.length).map (gW k),0,()):=by
 rw[<-bN];unfold At;have A:hB=4294967296:=rfl;have n:it k=0:=(by simp_all [aw,ax,it]);simp only[BE k j,n,aI,bne_self_eq_false,bR];simp only[bX];refine(Tw i j p).mono ?_;rintro⟨⟨f,g,_⟩,_⟩ c;simp only at c;simp only[bX];refine cx (P:=λt=>t.1=(bL k.length).map (gW k)) ?_ (by grind [bv]);refine ae.for (i0:=0) k.length (λa h=>h.2.1=(bL a).map (gW k)/\y6 k (λl=>l<a) h.1.1 h.1.2.1) rfl ⟨bo,?_⟩ (c5 _) ?_ ?_
 ·grind
 ·rintro a ⟨⟨f,g,_⟩,C,_⟩ _ e ⟨q,c⟩;simp only at q c;have B:=JI f g a k.length;have y:[(a:Z)]++lL f g a k.length=gW k a:=by
   have o:=λd=>Jv c (v:=a) (w:=d) e (wP a);refine aeQ ?_ (Nh k a) ?_
   ·rw[zi,nm];grind [JJ,P1]
   intro l;constructor
   ·intro b;rw[zi,fG] at b;rcases b with rfl|b
    ·exact vL.2 ⟨e,.inl bo⟩
    obtain⟨d,rfl,_⟩:=JJ b;have:=(o d).1 b;exact vL.2 ⟨this.1,.inr ⟨aa,Tj.2 this.2.2.2⟩⟩
   intro b;rw[zi,fG];have r:=b;unfold gW uN at b;simp only[fe] at b;obtain⟨d,_,rfl⟩:=b;obtain⟨u,m|⟨m,x⟩⟩:=vL.1 r
   ·omega
   grind [Tj]
  rw[bZ];refine⟨λ_=>?_,λz=>by grind⟩;simp only[LV c.Gn c.rows c.vz (aa:k.length<=4294967296) e,aI,bX,ae.yh];refine⟨by grind,by grind,?_⟩;refine(TE i aa c e (wP a)).mono ?_;grind [akp,iS,bv]
 simp_all [bZ,bv]
end
def UX (d:c.Pairwise (· < ·)) (e:∀g∈c,0<=g):∀a,(b:a<c.length)->(a:Z)<=c[a]:=by
 intro a
 induction a with
 |zero=>intro b;exact e _ (cG b)
 |succ a f=>
  intro b;have h:=f aa;have i:=Bo.1 d a b;omega
def qt.length {a:aj0} {c:X} (b:qt a c):a.length<=c:=by
 rcases sd a.length with d|d
 ·omega
 have g:=UX b.1 (λf e=>(b.2 f e).1) (a.length-1) aa;have h:=(b.2 _ (cG (aa:a.length-1<a.length))).2;omega
def fa.rows (b:fa k):∀a∈k,a.length<=k.length:=by intro a c;obtain⟨e,d,rfl⟩:=hG.1 c;exact(b.asc e d).length
def fa.hc (b:fa k) (d:k.length<=200):∀a∈k,a.length<4611686018427387904:=λa c=>by have:=b.rows a c;omega
def pU:it k=0↔k.length<=200/\fa k:=by
 unfold it;by_cases a:200<k.length
 ·rw[ax a];constructor
  ·intro a;omega
  intro a;omega
 rw[aw a];by_cases b:fa k
 ·rw[ax b];exact⟨λ_=>⟨aa,b⟩,λ_=>rfl⟩
 rw[aw b];exact⟨λa=>by omega,λa=>absurd a.2 b⟩
def Rh (a:eA) (b:X):Z:=((gW a b)[1]?).getD (-1)
section
def M9 (P:X->Prop):X->X
 |0=>0
 |k+1=>M9 P k+(open Classical in if P k then 1 else 0)
section
variable {P Q:X->Prop} {k:X}
end
def GM (n:X) (f:X->Z):Prop:=∀a,a<n->f a=-1\/((a:Z)<f a/\f a<n)
def Uc (n:X) (f:X->Z) (a b:X):Prop:=a<n/\f a=(b:Z)
def Sub (n:X) (f:X->Z) (a b:X):Prop:=CB (Uc n f) a b
section
variable {n:X} {f:X->Z} (A:GM n f)
include A
def gk (n:X) (f:X->Z) (b:X):X:=M9 (λa=>Sub n f a b) n
def Tz (n:X) (f:X->Z):Prop:=∀a,a<n->∀b,Sub n f b a->a<b+gk n f a
end
end
section
section
variable {B:eA} (C:fa B) (A:B.length<=200)
include C A
end
def ZA (b:aj0) (n a:X):Z:=(b[a+1]?).getD n
section
variable {n:X} {f:X->Z} (D:GM n f) (A:n<=200)
include D A
end
end
section
theorem VJ (A:eA) (a:X):(gW A a).length<=A.length:=VH A a A.length
section
variable {A:eA} (B:fa A) (C:A.length<=200)
include B C
end
end
section
section
variable {A:eA} (B:fa A) (C:A.length<=200)
include B C
theorem adT:At ((A,()),())=Y (aF A.length (gW A),0,()):=adS B (B.hc C) C
end
end
section
structure L0 (n:X) (f:X->Z) (K9:aj0) (m:X) (s e:X->X):Prop where
 len:K9.length=m
 st:K9=aF m λk=>(s k:Z)
 KV:0<n->0<m/\s 0=0
 agK:n=0->m=0
 ok:∀k,k<m->s k<e k/\e k<=n/\e k<=s k+gk n f (e k-1)
 aH:∀k,k<m->ZA K9 n k=(e k:Z)
 agA:∀k,k+1<m->e k=s (k+1)
 el:∀k,k+1=m->e k=n
section
variable {A:eA} (B:fa A) (C:A.length<=200)
include B C
end
end
section
def hf (s:X->X) (a:X):X->Z
 |0=>-1
 |k+1=>if s k<=a then(k:Z) else hf s a k
abbrev df:=Z×dU
section
variable {n:X} {f:X->Z} {B:aj0} {m:X} {s e:X->X} (C:L0 n f B m s e)
include C
end
section
variable {A:eA} (D:fa A) (F:A.length<=200)
include D F
end
end
def T1:∀a:X,a<201->Dv (1,(a:Z),())=Y (0,(a:Z),()):=by unfold Dv;decide+kernel
def Uf (c:Z) (t:0<a) (u:a<=200):DJ ([c],(a:Z),())=Y (bJ a c,()):=by
 unfold DJ;have ao:bE.wrap (a:Z)=(a:Z):=(by rw[Tm];omega);have m:bE.wrap ((1:X):Z)=1:=(by rw[Tm];rfl);have r:¬((a:Z)<0):=aa;have p:¬((a:Z)>9223372036854775807):=aa;simp only[cW,aw r,aI,HP,ao,m,T1 a aa,xl,(aa:¬((0:Z)>0)),akT,aC p,bR,B4 (aa:a<9223372036854775808),iP (aa:a<=4294967296),wM,qC,alY];rw[<-bN];refine bF (P:=λl=>l.1=bJ a c) ?_ (by rintro⟨l,⟨⟩⟩ g;simp only at g;subst g;exact bv.2 bo);have s:∀b:X,b<=a->bJ b c++bJ (a-b) 0=aF a (λd=>if d<b then c else 0):=λb i=>(by rw[jY,jY,AJ];have:b+(a-b)=a:=aa;rw[this]);refine aky (λf=>∃b:X,f.1=(b:Z)/\0<b/\b<=a/\f.2.1=aF a (λd=>if d<b then c else 0)) (λf=>a-f.1.toNat) ⟨1,?_,aa,aa,?_⟩ ?_
 ·show((min 1 a:X):Z)=1;rw[h6 aa];rfl
 ·show j8 (bJ a 0) [c] 0 a=_;unfold j8;rw[h6 (show[c].length<=a-0 by simp;omega),amS,fW (show[c].length<=a-0 by simp;omega),jh,List.drop_replicate,jY];show[c]++aF (a-1) (λ_=>0)=_;have:[c]=aF 1 (λ_=>c):=rfl;rw[this,AJ];have:1+(a-1)=a:=aa;rw[this]
 rintro⟨f,w,⟨⟩⟩ ⟨b,i,v,q,k⟩;simp only at i k;subst i k;simp only[cN];by_cases g:b<a
 ·simp(disch:=omega) only[ax,yx,rv,Rq,aI,jv,mT,EG,cN];refine bv.2 ⟨⟨b+min b (a-b),To aa,aa,aa,?_⟩,?_⟩
  ·show j8 (aF a λd=>if d<b then c else 0) (aF b λd=>if d<b then c else 0) b a=_;unfold j8;have n:(aF b λd=>if d<b then c else 0)=aF b λ_=>c:=eD λd h=>(by rw[ax h]);have o:(aF b λ(_:X)=>c).take (a-b)=aF (min b (a-b)) λ_=>c:=by
    rcases Nat.le_total (a-b) b with e|e
    ·rw[EG _ _ _ e,Nat.min_eq_right e]
    rw[fW (by rw[cN];exact e),h6 e]
   rw[EG _ _ _ q,cN,n,o,WN,AJ,AJ];have:b+(min b (a-b)+(a-(b+min b (a-b))))=a:=aa;rw[this];refine eD λd h=>?_;by_cases e:d<b
   ·rw[ax e,ax aa]
   rw[aw e];by_cases j:d-b<min b (a-b)
   ·rw[ax j,ax aa]
   rw[aw j,aw aa,aw aa]
  show a-(bK.wrap ((b:Z)+((min b (a-b):X):Z))).toNat<a-(b:Z).toNat;rw[To aa];omega
 simp(disch:=omega) only[aw];refine bv.2 ?_;show _=_;rw[jY];exact eD λd h=>by rw[ax aa]
def bm (a:bn df):X->X
 |0=>0
 |k+1=>((a[k]?).map λ(b:df)=>b.2.1.toNat).getD 0
def nY (d:X) (c:bn df) (b:X):Prop:=∃a:df,c[b]?=Y a/\a.1=(bm c b:Z)/\(bm c b:Z)<a.2.1/\a.2.1<=(d:Z)
def lR (c:X) (a:bn df):Prop:=(∀b,b<a.length->nY c a b)/\bm a a.length=c
theorem Vr {b:bn df} (c:a<b.length) (d:0<=b[a].2.1):(bm b (a+1):Z)=b[a].2.1:=by grind [b0,bm]
theorem nY.at {c:bn df} (i:a<c.length) (d:nY b c a):c[a].1=(bm c a:Z)/\c[a].2.1=(bm c (a+1):Z)/\bm c a<bm c (a+1)/\bm c (a+1)<=b:=by obtain⟨j,e,f,g,h⟩:=d;grind [Vr,alX,b0]
theorem MO {d:bn df} {m:X} (f:∀e,e<m->e<d.length/\nY a d e):∀c b,c<=b->b<=m->bm d c<=bm d b:=by
 intro c b l
 induction b with
 |zero=>grind
 |succ b j=>
  intro n;rcases cR c (b+1) with g|g
  ·have k:=j aa aa;obtain⟨h,i⟩:=f b aa;have:=i.at h;omega
  grind
theorem xi {c:bn df} {m:X} (g:∀a,a<m->a<c.length/\nY f c a) (n:a<m) (i:bm c a<=b) (j:b<bm c (a+1)):∀d,a<d->d<=m->hf (bm c) b d=(a:Z):=by
 intro d
 induction d with
 |zero=>omega
 |succ e o=>
  intro k l;rcases cR a e with h|h
  ·have:=MO g (a+1) e aa aa;grind [jt.hf]
  obtain rfl:e=a:=aa;simp_all [ax,jt.hf]
theorem xh {c:bn df} (f:lR b c) (g:a<b):∃d,d<c.length/\bm c d<=a/\a<bm c (d+1):=by
 have h:∀e,e<=c.length->a<bm c e->∃d,d<e/\bm c d<=a/\a<bm c (d+1):=by
  intro e
  induction e with
  |zero=>intro _ f;exact absurd f (zk _)
  |succ e k=>
   grind
 obtain⟨d,i,j⟩:=h c.length (bd _) (by rw[f.2];exact g);grind
theorem VM (b:bn df) (D:a<=200) (C:b.length<4611686018427387904):ae (El (b,(a:Z),())) (λf=>(f.2.1=bp↔lR a b)/\(lR a b->f.1=aF a (λg=>hf (bm b) g b.length))):=by
 classical
 unfold El;refine bF (P:=λv=>match v with|.inl f=>(∀c,c<b.length->nY a b c)/\f.1=aF (bm b b.length) (λg=>hf (bm b) g b.length)|.inr f=>¬lR a b/\f=([],br,())) ?_ ?_
 ·refine ae.for b.length (λc w=>(∀d,d<c->d<b.length->nY a b d)/\w.1=aF (bm b c) (λg=>hf (bm b) g c)) (i0:=0) rfl ⟨λd e=>by omega,bo⟩ (c5 _) ?_ ?_
  ·rintro c ⟨u,⟨⟩⟩ _ k ⟨p,i⟩;simp only at i;subst i;have q:∀d,d<c->d<b.length/\nY a b d:=λd o=>⟨aa,p d o aa⟩;have B:bm b c<=a:=by
    cases c with
    |zero=>exact c5 _
    |succ c=>exact((q c aa).2.at aa).2.2.2
   have s:=fu (bk k);simp(disch:=omega) only[cW,ax,s,aI,cN,fq];have A:¬(b[c].1=(bm b c:Z)/\(bm b c:Z)<b[c].2.1/\b[c].2.1<=(a:Z))->¬lR a b:=λe l=>(by obtain⟨E,j,n⟩:=l.1 c k;grind);by_cases h:b[c].1=(bm b c:Z)
   ·by_cases x:b[c].2.1<=b[c].1
    ·simp only[h,akq,gI,show(br==br)=bp from rfl,bH,aJ (aa:b[c].2.1<=(bm b c:Z)),show(bp==br)=br from rfl,bR,aI];grind [bv]
    by_cases m:b[c].2.1>(a:Z)
    ·simp only[h,akq,gI,show(br==br)=bp from rfl,bH,aC (aa:¬b[c].2.1<=(bm b c:Z)),aJ m,aI];grind [bv]
    have r:nY a b c:=⟨b[c],bk k,h,aa,aa⟩;obtain⟨j,n,y,z⟩:=r.at k;have t:bK.wrap (b[c].2.1-b[c].1)=((bm b (c+1)-bm b c:X):Z):=(by rw[j,n,agb aa aa]);simp only[h,akq,gI,show(br==br)=bp from rfl,bH,aC (aa:¬b[c].2.1<=(bm b c:Z)),aC m,bR,aI];rw[<-h];rw[t,Uf _ aa aa];simp(disch:=omega) only[aI,wM,eC,jd,cN];refine bv.2 ⟨bo,λd o e=>?_,?_⟩
    ·grind
    show aF (bm b c) (λg=>hf (bm b) g c)++bJ (bm b (c+1)-bm b c) (c:Z)=_;grind [eD,jY,AJ,jt.hf,bm]
   simp only[aC h,ml,show(bp==br)=br from rfl,bR,bH,aI];grind [bv]
  simp_all [cW,aw,bv]
 rintro(⟨u,⟨⟩⟩|f) e
 ·obtain⟨j,i⟩:=e;simp only at i;subst i;simp only[cN];refine bv.2 ⟨?_,λl=>?_⟩
  ·show(((bm b b.length:X):Z)==(a:Z))=bp↔_;rw[beq_iff_eq];exact⟨λe=>⟨j,aa⟩,λe=>by have:=e.2;omega⟩
  show aF (bm b b.length) _=_;rw[l.2]
 grind [bv]
def qH (c:X) (a:df) (b:X):Prop:=∀d:b<a.2.2.1.length,(b<(a.2.1-a.1).toNat->a.2.2.1[b]=a.1+(b:Z))/\((a.2.1-a.1).toNat<=b->a.2.1<=a.2.2.1[b]/\a.2.2.1[b]<(c:Z)/\a.2.2.1[b-1]<a.2.2.1[b])
def jO (c:X) (a:df):Prop:=(a.2.1-a.1).toNat<=a.2.2.1.length/\∀b,0<=b->b<a.2.2.1.length->qH c a b
theorem aeE {n:X} {x:df} (o:0<=x.1) (p:x.1<x.2.1) (q:x.2.1<=(n:Z)) (s:n<=200) (r:x.2.2.1.length<4611686018427387904):En (x,(n:Z),())=Y ((open Classical in decide (jO n x)),()):=by
 classical
 obtain⟨b,j⟩:∃b:X,x.2.1-x.1=(b:Z):=⟨(x.2.1-x.1).toNat,aa⟩;have t:(x.2.1-x.1).toNat=b:=aa;unfold En;simp only[j,B4 (aa:b<9223372036854775808),cW];by_cases l:b<=x.2.2.1.length
 ·rw[aw aa];refine af (tm (τ:=bt) x.2.2.1.length (qH n x) () (.inl ()) (.inr (br,())) 0 bo (c5 _) ?_ ?_) ?_
  ·intro a _ i _;have h:=fu (bk i);rw[ax aa,h];simp only[aI,CW,fq];by_cases m:a<b
   ·rw[ax aa,cq aa aa];simp only[aI];by_cases c:x.2.2.1[a]=x.1+(a:Z)
    ·have:qH n x a:=λ_=>⟨λ_=>c,λg=>by omega⟩;rw[ax this,aJ c];simp(disch:=omega) only[gI,bR,aw,aI,jd]
    simp_all [aw,aC,qH]
   rw[aw aa];simp only[aI,bR];rw[ax aa];simp only[xl];have k:aj x.2.2.1 (bK.wrap ((a:Z)-1))=Y (x.2.2.1[a-1]'(by omega)):=by grind [fu,b0,B7]
   by_cases c:x.2.2.1[a]<x.2.1
   ·grind [qH]
   rw[aw c];by_cases e:x.2.2.1[a]>=(n:Z)
   ·grind [qH]
   rw[aw e,k];simp only[aI];by_cases f:x.2.2.1[a]<=x.2.2.1[a-1]
   ·grind [qH]
   have:qH n x a:=λ_=>⟨λg=>by omega,λ_=>⟨aa,aa,aa⟩⟩;rw[ax this,aw f];grind [jd]
  ·grind
  by_cases d:∀a,0<=a->a<x.2.2.1.length->qH n x a
  ·rw[ax d,aJ (show jO n x from⟨aa,d⟩)]
  simp_all [aw,aC,jO]
 simp_all [ax,aC,jO]
def hC (a:bn df) (b:Z):aj0:=((a[b.toNat]?).map λ(c:df)=>c.2.2.1).getD []
def je (c:bn df) (a:df):Prop:=
 (a.2.2.1.length=(a.2.1-a.1).toNat/\a.2.2.2.1=-1)\/
 (∃d:(a.2.1-a.1).toNat<a.2.2.1.length,a.2.2.2.1=hf (bm c) (a.2.2.1[(a.2.1-a.1).toNat]).toNat c.length/\∀b,(a.2.1-a.1).toNat<=b->(e:b<a.2.2.1.length)->a.2.2.1[b]∈hC c a.2.2.2.1)
theorem jO.asc {b:df} (f:0<=b.1) (g:b.1<b.2.1) (c:jO a b):b.2.2.1.Pairwise (· < ·):=by rw[Bo];intro e d;have ay:=c.2 e (c5 _) aa aa;have h:=c.2 (e+1) (c5 _) d d;grind
theorem tK {b:bn df} (c:a<b.length):hC b (a:Z)=b[a].2.2.1:=by grind [akz,b0,hC]
theorem LH {v:Z} (b:c.length<4611686018427387904) (d:c.Pairwise (· < ·)):∃a,u1 (c,v,())=Y (a,bu (v∈c),()):=by obtain⟨⟨a,e,⟨⟩⟩,f,g⟩:=LI c v b d;grind
theorem Yz {c:bn df} (V:b<=200) (n:lR b c) (w:∀L∈c,L.2.2.1.length<4611686018427387904) (u:∀a,(r:a<c.length)->jO b c[a]) (i:a<c.length):Em (c,aF b (λz=>hf (bm c) z c.length),c[a],())=Y ((open Classical in decide (je c c[a])),()):=by
 classical
 have t:=(n.1 a i).at i;have p:=u a i;have D:=w _ (cG i);generalize am:c[a]=d at t p D;obtain⟨N,O,P,Q⟩:=t;obtain⟨e,F⟩:∃e:X,d.2.1-d.1=(e:Z):=⟨(d.2.1-d.1).toNat,aa⟩;have x:(d.2.1-d.1).toNat=e:=aa;have G:=p.1;rw[x] at G;unfold Em;simp(disch:=omega) only[F,B4 (aa:e<9223372036854775808),yx,aI,rv,jv,hm,oY,cW,gh,fq];by_cases R:d.2.2.1.length=e
 ·rw[ax aa];have:bu (d.2.2.2.1=-1)=bu (je c d):=by
   simp_all [akd,je]
  grind
 have o:e<d.2.2.1.length:=aa;have ad:=(p.2 e (c5 _) o o).2 aa;obtain⟨k,y⟩:∃k:X,d.2.2.1[e]=(k:Z):=⟨(d.2.2.1[e]).toNat,aa⟩;have K:k<b:=aa;have A:aj (d.2.2.1.drop e) 0=Y (k:Z):=(by grind [fu]);rw[aw aa];simp(disch:=omega) only[A,aI,vy];obtain⟨g,h,H,I⟩:=xh n K;have q:hf (bm c) k c.length=(g:Z):=xi (m:=c.length) (λa i=>⟨i,n.1 a i⟩) h H I c.length h (bd _);rw[q];have T:je c d↔d.2.2.2.1=(g:Z)/\∀f,0<=f->f<d.2.2.1.length-e->d.2.2.1.getD (e+f) 0∈c[g].2.2.1:=by
  unfold je;rw[x];constructor
  ·rintro(r|⟨r,j,l⟩)
   ·omega
   rw[y,fF,q] at j;grind [b0,tK]
  rintro⟨j,l⟩;refine .inr ⟨o,by rw[y,fF,q,j],λf s S=>?_⟩;rw[j,tK h];have:=l (f-e) (c5 _) aa;grind
 by_cases s:d.2.2.2.1=(g:Z)
 ·simp only[s,akq,gI,bR];have B:c[g].2.2.1.Pairwise (· < ·):=by
   have:=(n.1 g h).at h;exact(u g h).asc aa aa
  have J:=w _ (cG h);refine af (tm (τ:=bt) (d.2.2.1.length-e) (λf=>d.2.2.1.getD (e+f) 0∈c[g].2.2.1) () (.inl ()) (.inr (br,())) 0 bo (c5 _) ?_ ?_) ?_
  ·intro f _ U _;have j:aj (d.2.2.1.drop e) (f:Z)=Y (d.2.2.1.getD (e+f) 0):=by
    grind [b0,fu]
   have l:aj c (g:Z)=Y c[g]:=fu (bk h);obtain⟨M,C⟩:=LH (v:=d.2.2.1.getD (e+f) 0) J B;rw[ax aa,j,l];simp only[aI,C];by_cases E:d.2.2.1.getD (e+f) 0∈c[g].2.2.1
   ·simp(disch:=omega) only[E,akq,gI,bR,cg,jd]
   grind
  ·grind
  grind
 grind
section
theorem VS {l:bn df} (C:a<=200) (D:l.length<4611686018427387904) (e:lR a l) (F:∀i∈l,i.2.2.1.length<4611686018427387904):DD (l,(Y (a:Z),()),())=Y ((open Classical in decide (¬∀b,(d:b<l.length)->jO a l[b])),()):=by
 classical
 rw[<-bN];unfold DD;refine bF (P:=λh=>0<=h.1↔¬∀b,(d:b<l.length)->jO a l[b]) ?_ ?_
 ·unfold HT;refine bF (Jn l.length (λb=>∀d:b<l.length,jO a l[b]) ?_ ?_) ?_
  ·intro b c;have f:=fu (bk c);obtain⟨j,k,m,o⟩:=(e.1 b c).at c;have g:=aeE (n:=a) (x:=l[b]) aa aa aa C (F _ (cG c));simp(disch:=omega) only[cW,ax,f,aI,H7,g];by_cases d:jO a l[b]
   ·simp(disch:=omega) only[d,akq,gI,bR,c,amT,cg,jd]
   grind
  ·grind
  grind [bv]
 grind [bv,ge_iff_le]
theorem VT {l:bn df} (C:a<=200) (D:l.length<4611686018427387904) (e:lR a l) (F:∀k∈l,k.2.2.1.length<4611686018427387904) (f:∀b,(c:b<l.length)->jO a l[b]):DE (l,(Y l,Y (aF a (λj=>hf (bm l) j l.length)),()),())=Y ((open Classical in decide (¬∀b,(c:b<l.length)->je l l[b])),()):=by
 classical
 rw[<-bN];unfold DE;refine bF (P:=λi=>0<=i.1↔¬∀b,(c:b<l.length)->je l l[b]) ?_ ?_
 ·unfold HU;refine bF (Jn l.length (λb=>∀c:b<l.length,je l l[b]) ?_ ?_) ?_
  ·intro b d;have g:=fu (bk d);have h:=Yz C e F f d;simp(disch:=omega) only[cW,ax,g,aI,H8,h];by_cases c:je l l[b]
   ·simp(disch:=omega) only[c,akq,gI,bR,d,amT,cg,jd]
   grind
  ·grind
  grind [bv]
 grind [bv,ge_iff_le]
def TD (A:eA) (l:bn df) (b a:X):Prop:=b<a->(a:Z)∈hC l (hf (bm l) b l.length)
def hF (A:eA) (l:bn df):Prop:=lR A.length l/\(∀a,(d:a<l.length)->jO A.length l[a])/\(∀a,(d:a<l.length)->je l l[a])/\∀c b,j6 A c b->TD A l c b
def s5 (A:eA) (l:bn df):Z:=if it A≠0 then it A else(open Classical in if hF A l then 0 else 211)
section
variable {A:eA} (B:fa A) (C:A.length<=200) {l:bn df} (D:l.length<4611686018427387904) (F:∀y∈l,y.2.2.1.length<4611686018427387904)
include B C D F
theorem WU:xV ((A,()),l,())=Y ((open Classical in if hF A l then 0 else 211),()):=by
 classical
 have I:=B.hc C;unfold xV;simp only[Gy A I,pU.2 ⟨C,B⟩,aI,fq,akq,gI,bR];obtain⟨⟨ap,T,⟨⟩⟩,z,t,u⟩:=VM l C D;simp only at t u;simp only[z,aI,xl];by_cases f:lR A.length l
 ·have w:=t.2 f;have O:=u f;subst w O;simp only[gI,show(br==br)=bp from rfl,bH,VS C D f F,aI];by_cases j:∀b,(d:b<l.length)->jO A.length l[b]
  ·simp only[j,an1,alK,decide_false,bR,aI,VT C D f F j];by_cases q:∀b,(d:b<l.length)->je l l[b]
   ·simp only[q,an1,alK,decide_false,bR];have V:hF A l↔∀a,0<=a->a<A.length->∀d:a<A.length,∀b,0<=b->b<A[a].length->∀c:b<A[a].length,A[a][b]<=(a:Z)->(a:Z)∈hC l (hf (bm l) A[a][b].toNat l.length):=by
     constructor
     ·rintro⟨_,_,_,E⟩ a _ _ d b _ _ c M;have R:=(B.asc a d).2 _ (cG c);obtain⟨e,n⟩:∃e:X,A[a][b]=(e:Z):=⟨A[a][b].toNat,aa⟩;have o:j6 A a e:=⟨d,n▸cG c⟩;have am:=o.ne B;rw[n,fF];exact E e a (amR B _ _ o) aa
     intro d;refine⟨f,j,q,λe a o ad=>?_⟩;have S:=amR B _ _ o;obtain⟨b,c,s⟩:=hG.1 S.2;grind
    rw[show(if hF A l then(0:Z) else 211)=if(∀a,0<=a->a<A.length->∀d:a<A.length,∀b,0<=b->b<A[a].length->∀c:b<A[a].length,A[a][b]<=(a:Z)->(a:Z)∈hC l (hf (bm l) A[a][b].toNat l.length)) then 0 else 211 from by grind];refine af (tm (τ:=aj0×bt) A.length (λa=>∀d:a<A.length,∀b,0<=b->b<A[a].length->∀c:b<A[a].length,A[a][b]<=(a:Z)->(a:Z)∈hC l (hf (bm l) A[a][b].toNat l.length)) (aF A.length (λi=>hf (bm l) i l.length),()) (.inl ()) (.inr (211,())) 0 bo (c5 _) ?_ ?_) ?_
    ·intro a _ k _;have J:=fu (bk k);have an:=B.rows _ (cG k);simp(disch:=omega) only[cW,ax,J,aI];refine af (tm (τ:=aj0×bt) A[a].length (λb=>∀c:b<A[a].length,A[a][b]<=(a:Z)->(a:Z)∈hC l (hf (bm l) A[a][b].toNat l.length)) (aF A.length (λi=>hf (bm l) i l.length),()) (.inl (aF A.length (λi=>hf (bm l) i l.length),())) (.inr (.inr (.inr (211,())))) 0 bo (c5 _) ?_ ?_) ?_
     ·intro b _ c _;have K:=fu (bk c);have R:=(B.asc a k).2 _ (cG c);obtain⟨e,n⟩:∃e:X,A[a][b]=(e:Z):=⟨A[a][b].toNat,aa⟩;simp(disch:=omega) only[ax,K,aI,n,c,amT,fF];by_cases r:(e:Z)>(a:Z)
      ·have:(e:Z)<=(a:Z)->(a:Z)∈hC l (hf (bm l) e l.length):=λd=>aa;rw[ax r,ax this];grind [jd]
      obtain⟨h,g,P,Q⟩:=xh f (aa:e<A.length);have L:hf (bm l) e l.length=(h:Z):=xi (m:=l.length) (λb c=>⟨c,f.1 b c⟩) g P Q l.length g (bd _);have y:aj l (h:Z)=Y l[h]:=fu (bk g);have G:l[h].2.2.1.Pairwise (· < ·):=(by have:=(f.1 h g).at g;exact(j h g).asc aa aa);obtain⟨U,H⟩:=LH (v:=(a:Z)) (F _ (cG g)) G;rw[aw r];simp(disch:=omega) only[vy,aI,L,y,H,tK g];have M:(e:Z)<=(a:Z):=aa;by_cases N:(a:Z)∈l[h].2.2.1
      ·simp(disch:=omega) only[N,akq,gI,bR,aI,an1,cg,jd]
      grind
     ·grind
     have s:(∀d:a<A.length,∀b,0<=b->b<A[a].length->∀c:b<A[a].length,A[a][b]<=(a:Z)->(a:Z)∈hC l (hf (bm l) A[a][b].toNat l.length))↔(∀b,0<=b->b<A[a].length->∀c:b<A[a].length,A[a][b]<=(a:Z)->(a:Z)∈hC l (hf (bm l) A[a][b].toNat l.length)):=⟨λp=>p k,λp _=>p⟩;by_cases x:∀b,0<=b->b<A[a].length->∀c:b<A[a].length,A[a][b]<=(a:Z)->(a:Z)∈hC l (hf (bm l) A[a][b].toNat l.length)
     ·simp(disch:=omega) only[ax x,ax (s.2 x),jd]
     grind
    ·grind
    grind
   have:¬hF A l:=λd=>q d.2.2.1;grind
  have:¬hF A l:=λd=>j d.2.1;grind
 have w:T=br:=(by grind);have:¬hF A l:=λd=>f d.1;grind
end
theorem aeD {n:X} {x:df} (l:0<=x.1) (m:x.1<x.2.1) (w:x.2.1<=(n:Z)):jO n x↔x.2.2.1.Pairwise (· < ·)/\∃(b:(x.2.1-x.1).toNat<=x.2.2.1.length),x.2.2.1[0]'(by omega)=x.1/\x.2.2.1[(x.2.1-x.1).toNat-1]'(by omega)=x.2.1-1/\x.2.2.1[x.2.2.1.length-1]'(by omega)<(n:Z):=by
 obtain⟨f,u⟩:∃f:X,x.2.1-x.1=(f:Z):=⟨(x.2.1-x.1).toNat,aa⟩;have v:(x.2.1-x.1).toNat=f:=aa;constructor
 ·intro b;refine⟨b.asc l m,b.1,?_,?_,?_⟩
  ·have:=(b.2 0 (c5 _) (by have:=b.1;omega) (by have:=b.1;omega)).1 aa;omega
  ·have:=(b.2 ((x.2.1-x.1).toNat-1) (c5 _) (by have:=b.1;omega) (by have:=b.1;omega)).1 aa;omega
  have D:=b.1;have t:=b.2 (x.2.2.1.length-1) (c5 _) aa aa;omega
 rintro⟨p,D,q,r,s⟩;have h:∀a e,(d:a<x.2.2.1.length)->(g:e<x.2.2.1.length)->a<e->x.2.2.1[a]<x.2.2.1[e]:=λa e d g o=>(hY.1 p) a e d g o;have i:∀c a,(d:a+c<x.2.2.1.length)->x.2.2.1[a]+(c:Z)<=x.2.2.1[a+c]:=by
  intro c
  induction c with
  |zero=>grind
  |succ c y=>
   grind
 refine⟨D,λa _ _ d=>⟨λj=>?_,λj=>⟨?_,?_,?_⟩⟩⟩
 ·have ay:=i a 0 aa;have A:=i ((x.2.1-x.1).toNat-1-a) a aa;grind
 ·have z:=h ((x.2.1-x.1).toNat-1) a aa d aa;omega
 ·rcases cR a (x.2.2.1.length-1) with k|k
  ·grind
  grind
 exact h (a-1) a aa d aa
section
variable {A:eA} (B:fa A) (C:A.length<=200) {l:bn df} (D:l.length<4611686018427387904) (F:∀y∈l,y.2.2.1.length<4611686018427387904)
theorem OR (g:lR f l) (D:l.length<4611686018427387904) (s:a<l.length) (q:bm l a<=b) (r:b<bm l (a+1)):Au (l,(b:Z),())=Y ((a:Z),()):=by
 unfold Au;rw[<-bN];refine bF (P:=λj=>j=.inr ((a:Z),())) ?_ (by grind [bv]);refine ae.for (a+1) (λc _=>c<=a) (i0:=0) rfl (c5 _) (c5 _) ?_ ?_
 ·rintro c ⟨⟩ _ d _;have e:c<l.length:=aa;have i:=fu (bk e);obtain⟨k,n,o,p⟩:=(g.1 c e).at e;simp(disch:=omega) only[cW,ax,i,aI,CW];rcases cR c a with h|h
  ·have:=MO (m:=l.length) (λc d=>⟨d,g.1 c d⟩) (c+1) a aa aa;rw[ax aa,aC aa];simp only[aI,bR];grind [bv,jd]
  obtain rfl:c=a:=aa;rw[ax aa,aJ aa];grind [bv]
 omega
include B C D F
theorem adU:xO ((A,()),l,())=Y ((open Classical in if hF A l then 0 else 211),()):=by
 classical
 have O:=B.hc C;unfold xO;simp only[BE A O,pU.2 ⟨C,B⟩,aI,fq,akq,gI,bR];rw[<-bN];refine bF (P:=λS=>match S with|.inl p=>(∀a,a<l.length->nY A.length l a)/\p.1=(bm l l.length:Z)|.inr p=>¬lR A.length l/\p=(211,())) ?_ ?_
 ·refine ae.count (λT=>T.2.1) l.length (λa T=>(∀e,e<a->e<l.length->nY A.length l e)/\T.1=(bm l a:Z)) (i0:=0) rfl ⟨λe c=>by omega,bo⟩ (c5 _) ?_ ?_
  ·rintro a ⟨V,d5,⟨⟩⟩ _ d q ⟨M,j⟩;simp only at q j;subst q j;have u:=fu (bk d);have eq:¬(l[a].1=(bm l a:Z)/\(bm l a:Z)<l[a].2.1/\l[a].2.1<=(A.length:Z))->¬lR A.length l:=λc O=>by
    obtain⟨ek,r,H⟩:=O.1 a d;grind
   simp(disch:=omega) only[cW,ax,u,aI];by_cases k:l[a].1=(bm l a:Z)
   ·simp only[aJ k,gI,show(br==br)=bp from rfl,bH,xl];by_cases J:l[a].2.1<=(bm l a:Z)
    ·rw[ax J];grind [bv]
    rw[aw J];by_cases K:l[a].2.1>(A.length:Z)
    ·rw[ax K];grind [bv]
    rw[aw K];have c2:nY A.length l a:=⟨l[a],bk d,k,aa,aa⟩;obtain⟨r,H,cs,cv⟩:=c2.at d;grind [cm,bv,jd]
   simp only[aC k,ml,show(bp==br)=br from rfl,bR,aI];grind [bv]
  rintro⟨V,d5,⟨⟩⟩ q ⟨M,j⟩;simp only at q j;subst q j;simp(disch:=omega) only[cW,aw];grind [bv]
 rintro(⟨V,⟨⟩⟩|p) c
 rotate_left
 ·obtain⟨r,rfl⟩:=c;exact bv.2 (by rw[aw (λc=>r c.1)])
 obtain⟨M,j⟩:=c;simp only at j;subst j;simp only;by_cases N:bm l l.length=A.length
 rotate_left
 ·have:¬((bm l l.length:Z)=(A.length:Z)):=aa;simp only[aC this,ml,bH];exact bv.2 (by rw[aw (λc=>N c.1.2)])
 have o:lR A.length l:=⟨M,N⟩;simp only[N,akq,gI,bR];refine bF (P:=λS=>match S with|.inl _=>(∀a,(c:a<l.length)->jO A.length l[a])/\(∀a,(c:a<l.length)->je l l[a])|.inr p=>¬((∀a,(c:a<l.length)->jO A.length l[a])/\(∀a,(c:a<l.length)->je l l[a]))/\p=(211,())) ?_ ?_
 ·refine ae.of_eq (tm (τ:=bt) l.length (λa=>∀c:a<l.length,jO A.length l[a]/\je l l[a]) () (.inl ()) (.inr (211,())) 0 bo (c5 _) ?_ ?_) ?_
  ·intro a _ d _;have u:=fu (bk d);obtain⟨k,J,K,el⟩:=(o.1 a d).at d;have ds:=F _ (cG d);have av:=aeD (n:=A.length) (x:=l[a]) aa aa aa;have d2:(∀c:a<l.length,jO A.length l[a]/\je l l[a])↔(jO A.length l[a]/\je l l[a]):=⟨λc=>c d,λc _=>c⟩;simp(disch:=omega) only[cW,ax,u,aI];simp only[d2];obtain⟨f,j⟩:∃f:X,l[a].2.1-l[a].1=(f:Z):=⟨(l[a].2.1-l[a].1).toNat,aa⟩;have an:(l[a].2.1-l[a].1).toNat=f:=aa;have d3:bK.wrap (l[a].2.1-1)=l[a].2.1-1:=cq aa aa;simp(disch:=omega) only[j,B4,LG _ ds,aI,xl,d3];by_cases a0:l[a].2.2.1.Pairwise (· < ·)
   rotate_left
   ·grind
   rw[aJ a0];simp only[gI,show(br==br)=bp from rfl,bH];by_cases a1:f<=l[a].2.2.1.length
   rotate_left
   ·grind
   rw[aw aa];have bs:aj l[a].2.2.1 0=Y (l[a].2.2.1[0]'(by omega)):=fu (i:=0) (bk aa)
   have bx:aj l[a].2.2.1 (bK.wrap ((f:Z)-1))=Y (l[a].2.2.1[f-1]'(by omega)):=by grind [fu,b0,B7]
   have ce:aj l[a].2.2.1 (bK.wrap ((l[a].2.2.1.length:Z)-1))=Y (l[a].2.2.1[l[a].2.2.1.length-1]'(by omega)):=by grind [fu,b0,B7]
   simp only[an] at av;simp only[bs,bx,ce,aI];by_cases a3:l[a].2.2.1[0]'(by omega)=l[a].1
   rotate_left
   ·grind
   rw[aJ a3];simp only[gI,show(br==br)=bp from rfl,bH];by_cases a4:l[a].2.2.1[f-1]'(by omega)=l[a].2.1-1
   rotate_left
   ·grind
   rw[aJ a4];simp only[gI,show(br==br)=bp from rfl,bH];by_cases d6:l[a].2.2.1[l[a].2.2.1.length-1]'(by omega)>=(A.length:Z)
   ·grind
   have t:jO A.length l[a]:=av.2 ⟨a0,a1,a3,a4,aa⟩;rw[aw d6];simp only[aI];by_cases r:l[a].2.2.1.length=f
   ·rw[aw aa];simp only[aI];by_cases I:l[a].2.2.2.1=-1
    ·have s:je l l[a]:=.inl ⟨aa,I⟩;simp only[aJ I,gI,bR];rw[ax ⟨t,s⟩];have:loop (σ:=es) (ρ:=dC) (λU=>if U.1<(l[a].2.2.1.length:Z) then(aj l (-1)).bind λd7=>(aj l[a].2.2.1 U.1).bind λd8=>(sI (d7.2.2.1,d8,())).bind λd9=>bif !d9.1 then Y (.inr (.inr (.inr (.inr (.inr (211,())))))) else Y (.inl (bK.wrap (U.1+1),())) else Y (.inr (.inl ()))) ((f:Z),())=Y (.inl ()):=by
      rw[yk];exact⟨1,by simp_all [aw,kf]⟩
     grind [jd]
    have s:¬je l l[a]:=λc=>by
     rcases c with c|⟨c,_⟩
     ·omega
     omega
    grind
   have H:f<l[a].2.2.1.length:=aa;have fs:=(t.2 f (c5 _) H H).2 aa;obtain⟨G,ft⟩:∃G:X,l[a].2.2.1[f]=(G:Z):=⟨(l[a].2.2.1[f]).toNat,aa⟩;have d4:G<A.length:=aa;have ci:aj l[a].2.2.1 (f:Z)=Y (G:Z):=(by grind [fu,b0]);obtain⟨h,g,z,E⟩:=xh o d4;have am:hf (bm l) G l.length=(h:Z):=xi (m:=l.length) (λa d=>⟨d,o.1 a d⟩) g z E l.length g (bd _);have L:aj l (h:Z)=Y l[h]:=fu (bk g);rw[ax aa];simp only[ci,aI,OR o D g z E];have R:=F _ (cG g);by_cases I:l[a].2.2.2.1=(h:Z)
   ·have em:je l l[a]↔∀e,f<=e->e<l[a].2.2.1.length->l[a].2.2.1.getD e 0∈l[h].2.2.1:=by
     unfold je;rw[an];simp_all [fF,tK,bk,us,akG]
    simp only[aJ I,gI,bR];refine af (y:=if je l l[a] then .inl () else .inr (.inr (.inr (211,())))) ?_ ?_
    ·refine af (tm (τ:=bt) l[a].2.2.1.length (λe=>l[a].2.2.1.getD e 0∈l[h].2.2.1) () (.inl ()) (.inr (.inr (.inr (.inr (211,()))))) f bo a1 ?_ ?_) ?_
     ·intro e cs cv _;have co:aj l[a].2.2.1 (e:Z)=Y (l[a].2.2.1.getD e 0):=by
       grind [b0,fu]
      rw[ax aa,L,co];simp only[aI,Ck _ _ R];by_cases w:l[a].2.2.1.getD e 0∈l[h].2.2.1
      ·simp(disch:=omega) only[w,akq,gI,bR,cg,jd]
      grind
     ·grind
     grind
    by_cases ap:je l l[a]
    ·rw[ax ap,ax ⟨t,ap⟩];grind [jd]
    grind
   have s:¬je l l[a]:=λc=>by
    rcases c with c|⟨c,ay,_⟩
    ·omega
    grind
   grind
  ·grind
  grind
 rintro(⟨⟩|p) c
 rotate_left
 ·obtain⟨r,rfl⟩:=c;exact bv.2 (by rw[aw (λc=>r ⟨c.2.1,c.2.2.1⟩)])
 obtain⟨t,s⟩:=c;simp only;have ex:hF A l↔∀b,0<=b->b<A.length->∀a,0<=a->a<(A.getD b []).length->(b:Z)<(A.getD b []).getD a 0->(A.getD b []).getD a 0∈hC l (hf (bm l) b l.length):=by
  constructor
  ·rintro⟨_,_,_,c1⟩ b _ c a _ d Q;simp only[akG,bk c,us] at d Q|-;simp only[bk d,us] at Q|-;have fp:=(B.asc b c).2 _ (cG d);obtain⟨e,ad⟩:∃e:X,A[b][a]=(e:Z):=⟨A[b][a].toNat,aa⟩;rw[ad] at Q|-;exact c1 b e ⟨c,ad▸cG d⟩ aa
  intro c;refine⟨o,t,s,λb e d0 fn=>?_⟩;obtain⟨v,w⟩:=d0;obtain⟨a,d,q⟩:=hG.1 w;have:=c b (c5 _) v a (c5 _);grind
 refine ae.of_eq (y:=(if hF A l then(0:Z) else 211,())) ?_ bo;refine af (tm (τ:=bt) A.length (λb=>∀a,0<=a->a<(A.getD b []).length->(b:Z)<(A.getD b []).getD a 0->(A.getD b []).getD a 0∈hC l (hf (bm l) b l.length)) () (.inl ()) (.inr (211,())) 0 bo (c5 _) ?_ ?_) ?_
 ·intro b _ v _;have dg:=fu (bk v);have fr:=B.rows _ (cG v);have dl:A.getD b []=A[b]:=(by grind);simp(disch:=omega) only[cW,ax,dl];obtain⟨h,g,z,E⟩:=xh o v;have am:hf (bm l) b l.length=(h:Z):=xi (m:=l.length) (λa d=>⟨d,o.1 a d⟩) g z E l.length g (bd _);have L:aj l (h:Z)=Y l[h]:=fu (bk g);have R:=F _ (cG g);refine af (tm (τ:=bt) A[b].length (λa=>(b:Z)<A[b].getD a 0->A[b].getD a 0∈hC l (hf (bm l) b l.length)) () (.inl ()) (.inr (.inr (.inr (211,())))) 0 bo (c5 _) ?_ ?_) ?_
  ·intro a _ d _;have u:aj A[b] (a:Z)=Y (A[b].getD a 0):=by
    grind [b0,fu]
   simp(disch:=omega) only[dg,aI,ax,u,CW];by_cases k:A[b].getD a 0>(b:Z)
   ·have bl:(b:Z)<A[b].getD a 0:=k;rw[ax k];simp only[OR o D g z E,aI,L,Ck _ _ R,am,tK g,bl,amT];by_cases w:A[b].getD a 0∈l[h].2.2.1
    ·simp(disch:=omega) only[w,akq,gI,bR,aI,cg,jd]
    grind
   have:(b:Z)<A[b].getD a 0->A[b].getD a 0∈hC l (hf (bm l) b l.length):=λc=>absurd c k;rw[aw k,ax this];grind [jd]
  ·grind
  by_cases d1:∀a,0<=a->a<A[b].length->(b:Z)<A[b].getD a 0->A[b].getD a 0∈hC l (hf (bm l) b l.length)
  ·simp(disch:=omega) only[ax d1,jd]
  grind
 ·grind
 grind
end
theorem TO {A:eA} (c:∀l∈A,l.length<4611686018427387904) {l:bn df} (D:l.length<4611686018427387904) (F:∀b∈l,b.2.2.1.length<4611686018427387904):xV ((A,()),l,())=Y (s5 A l,()):=by
 unfold s5;by_cases a:it A=0
 ·obtain⟨C,B⟩:=pU.1 a;rw[aw aa];grind [WU]
 simp_all [ax,Gy,aI,fq,aC,ml,bH,xV]
theorem TP {A:eA} (b:∀l∈A,l.length<4611686018427387904) {l:bn df} (D:l.length<4611686018427387904) (F:∀c∈l,c.2.2.1.length<4611686018427387904):xO ((A,()),l,())=Y (s5 A l,()):=by
 unfold s5;by_cases a:it A=0
 ·obtain⟨C,B⟩:=pU.1 a;rw[aw aa];grind [adU]
 rw[ax a];unfold xO;simp only[BE A b,aI,fq,aC a,ml,bH]
end
section
def cO (a:ajZ):aj0:=a.map λ(b:X)=>(b:Z)
theorem yw (a b:ajZ):cO (a++b)=cO a++cO b:=by simp[cO]
theorem hV (a:ajZ):(cO a).length=a.length:=by simp[cO]
section
variable {n:X} {f:X->Z} (A:GM n f) (B:n<=200)
include A B
end
end
section
theorem x6 {b:bn g} (d:a<b.length) (c:g):b.getD a c=b[a]:=by simp only[akG,bk d,us]
section
variable {A:eA} (B:fa A) (C:A.length<=200)
include B C
end
end
section
theorem Ni {A:eA} (B:fa A) (c:d∈gW A a):∃b:X,d=(b:Z)/\b<A.length/\a<=b:=by have e:=c;unfold gW uN at c;grind
section
variable {A:eA} (B:fa A) (C:A.length<=200)
include B C
section
variable {D:aj0} {m:X} {s e:X->X} (F:Tz A.length (Rh A)) (G:L0 A.length (Rh A) D m s e)
include F G
end
def wD (a:bn df) (c b:X):Prop:=b<a.length/\bm a b<=c/\c<bm a (b+1)
omit B C in
theorem wD.last {c:bn df} (g:lR f c) (d:wD c b a):hf (bm c) b c.length=(a:Z):=
 xi (m:=c.length) (λh e=>⟨e,g.1 h e⟩) d.1 d.2.1 d.2.2 c.length d.1 (bd _)
end
end
def hF.parent {b:bn df} (r:hF k b) (g:a<b.length):(b[a].2.2.2.1=-1\/∃d:X,b[a].2.2.2.1=(d:Z)/\d<b.length)/\∀c,(e:c<b[a].2.2.1.length)->b[a].2.1<=b[a].2.2.1[c]->∃d:X,b[a].2.2.2.1=(d:Z)/\d<b.length/\b[a].2.2.1[c]∈hC b (d:Z):=by
 obtain⟨l,s,q,_⟩:=r;obtain⟨z,A,B,C⟩:=(l.1 a g).at g;have m:=s a g;rcases q a g with⟨i,f⟩|⟨i,f,p⟩
 ·refine⟨.inl f,λc e v=>?_⟩;have:=(m.2 c (c5 _) e e).1 aa;omega
 have y:=(m.2 _ (c5 _) i i).2 (bd _);obtain⟨h,o⟩:∃h:X,b[a].2.2.1[(b[a].2.1-b[a].1).toNat]=(h:Z):=⟨(b[a].2.2.1[(b[a].2.1-b[a].1).toNat]).toNat,aa⟩;rw[o] at y;obtain⟨d,n,w,x⟩:=xh l (aa:h<k.length);have u:=wD.last l (⟨n,w,x⟩:wD b h d);rw[o,fF,u] at f;refine⟨.inr ⟨d,f,n⟩,λc e v=>?_⟩;refine⟨d,f,n,?_⟩;have t:(b[a].2.1-b[a].1).toNat<=c:=by
  rcases cR c (b[a].2.1-b[a].1).toNat with j|j
  ·have:=(m.2 c (c5 _) e e).1 j;omega
  exact j
 have:=p c t e;rw[f] at this;exact this
structure ux {α:Type} (lt:α->α->bA):Prop where
 U2:∀a b,lt a b=bp->lt b a=br
 trans:∀a b c,lt b a=br->lt c b=br->lt c a=br
theorem ux.int:ux (λa b:Z=>bu (a<b)):=⟨λa b d=>by grind,λa b c e f=>by grind⟩
def wE {b:Type} (g:b->b->bA) (c:X->b) (e f:X):Prop:=∀d a,d<a->a<=e->a≠f->g (c a) (c d)=br
def uz {b:Type} (f:b->b->bA) (c:X->b) (e:X):Prop:=∀d a,d<a->a<e->f (c a) (c d)=br
def swp {c:Type} (b:X->c) (a:X):X->c:=eI (eI b a (b (a-1))) (a-1) (b a)
def SN (b:X->g) (c:X):swp b a c=if c=a-1 then b a else if c=a then b (a-1) else b c:=rfl
def wE.swp {k:Type} {h:k->k->bA} (m:ux h) {f:X->k} {j a:X} (g:wE h f j a) (q:0<a) (r:a<=j) (n:h (f a) (f (a-1))=bp):wE h (swp f a) j (a-1):=by
 intro e b p i o;rw[SN,SN,aw o];by_cases c:b=a
 ·subst c;rw[ax bo];by_cases d:e=b-1
  ·rw[ax d];exact m.U2 _ _ n
  rw[aw d,aw aa];exact g e (b-1) aa aa aa
 rw[aw c];by_cases d:e=a-1
 ·rw[ax d];exact g a b aa i c
 rw[aw d];by_cases l:e=a
 ·rw[ax l];exact g (a-1) b aa i c
 rw[aw l];exact g e b p i c
theorem wE.done {e:g->g->bA} (k:ux e) {c:X->g} (j:wE e c b a) (n:a<=b) (d:a=0\/e (c a) (c (a-1))=br):uz e c (b+1):=by
 intro h f l o;by_cases i:f=a
 ·subst i;rcases d with d|d
  ·omega
  by_cases m:h=f-1
  ·grind
  exact k.trans _ _ _ (j h (f-1) aa aa aa) d
 exact j h f l aa i
theorem ae9 {c:X->g} (f:0<a) (h:a<b):(aF b (swp c a)).Perm (aF b c):=by have d:a<(aF b c).length:=(by grind [cN]);have e:a-1<(aF b c).length:=aa;have:=List.set_set_perm d e;rw[jX,jX,hI,hI] at this;exact this
theorem N7 [Inhabited g] (a:bn g):a=aF a.length (λb=>a[b]?.getD default):=WP a _ (λb c=>by grind)
theorem XU (b:aj0) (C:b.length<=1000):ae (DK (b,0,(b.length:Z),())) (λd=>∃a,d.1=aF b.length a/\uz (λf g=>bu (f<g)) a b.length/\d.1.Perm b):=by
 unfold DK;simp only[];generalize t:b.length=c at*;have u:bK.wrap (0+1)=((1:X):Z):=(by grind [cq]);rw[u];rcases sd c with z|w
 ·subst z;refine bF (P:=λd=>d.1=b) ?_ ?_
  ·refine aky (λj=>j=(((1:X):Z),b,())) (λ_=>0) rfl ?_;rintro _ rfl;simp only[cW];rw[aw aa];grind [bv]
  rintro⟨d,_⟩ rfl;refine bv.2 ⟨λ_=>0,?_,λm n o p=>by omega,amU _⟩;show d=[];grind
 refine bF (P:=λd=>∃a,d.1=aF c a/\uz (λf g=>bu (f<g)) a c/\d.1.Perm b) ?_ (λd y=>bv.2 y);refine ae.for c (λh A=>∃a,A=(aF c a,())/\uz (λf g=>bu (f<g)) a h/\(aF c a).Perm b) rfl ⟨λh=>b[h]?.getD default,?_,λm n o p=>by omega,?_⟩ w ?_ ?_
 ·rw[<-t,<-N7]
 ·rw[<-t,<-N7]
 ·rintro h _ o p ⟨a,rfl,q,i⟩;simp only[cW];rw[ax aa];refine bF (P:=λd=>∃a,d=(aF c a,())/\uz (λf g=>bu (f<g)) a (h+1)/\(aF c a).Perm b) ?_ ?_
  ·refine aky (λj=>∃(e:X) (a:X->Z),j=((e:Z),aF c a,())/\e<=h/\wE (λf g=>bu (f<g)) a h e/\(aF c a).Perm b) (λj=>j.1.toNat) ⟨h,a,bo,bd _,λm n x E D=>q m n x aa,i⟩ ?_;rintro _ ⟨e,a,rfl,l,k,i⟩;simp only[CW];by_cases r:0<e
   ·have B:e-1<c:=aa;have v:e<c:=aa;simp(disch:=omega) only[ax,cN,B7,fB,gP,aI,LS,cW];by_cases s:a e<a (e-1)
    ·rw[ax s];simp(disch:=omega) only[aI,cN,B7,fB,gP,hI];refine bv.2 ⟨⟨e-1,swp a e,bo,aa,k.swp ux.int r l (by grind),(ae9 r v).trans i⟩,?_⟩;omega
    rw[aw s];exact bv.2 ⟨a,bo,k.done ux.int l (.inr (by grind)),i⟩
   rw[aw aa];exact bv.2 ⟨a,bo,k.done ux.int l (.inl aa),i⟩
  grind [jd,bv]
 rintro _ ⟨a,rfl,q,i⟩;simp only[cW];rw[aw aa];grind [bv]
theorem uz.pairwise {b:X->Z} (e:uz (λc d=>bu (c<d)) b a):(aF a b).Pairwise (· <= ·):=by rw[hY];intro g h i j f;rw[jX,jX];have:=e g h f (by grind [cN]);grind
theorem TX (a:X) (c:a<=12):∃b,Du ((a:Z),())=Y (b,()):=by
 have:a=0\/a=1\/a=2\/a=3\/a=4\/a=5\/a=6\/a=7\/a=8\/a=9\/a=10\/a=11\/a=12:=aa;rcases this with rfl|rfl|rfl|rfl|rfl|rfl|rfl|rfl|rfl|rfl|rfl|rfl|rfl
 ·exact⟨0,by kernel_rfl⟩
 ·exact⟨1,by kernel_rfl⟩
 ·exact⟨2,by kernel_rfl⟩
 ·exact⟨2,by kernel_rfl⟩
 ·exact⟨3,by kernel_rfl⟩
 ·exact⟨3,by kernel_rfl⟩
 ·exact⟨3,by kernel_rfl⟩
 ·exact⟨3,by kernel_rfl⟩
 ·exact⟨4,by kernel_rfl⟩
 ·exact⟨4,by kernel_rfl⟩
 ·exact⟨4,by kernel_rfl⟩
 ·exact⟨4,by kernel_rfl⟩
 exact⟨4,by kernel_rfl⟩
theorem acT (a:aj0) (c:Z) (h:a.length<=12):ae (DM (a,0,(a.length:Z),c,())) (λb=>b.1.Pairwise (· <= ·)/\b.1.Perm a):=by obtain⟨b,i,g,f,e,d⟩:=XU a aa;refine⟨b,?_,by rw[f];exact e.pairwise,d⟩;unfold DM;dsimp only;rw[Jo];dsimp only;have j:bK.wrap ((a.length:Z)-0)=((a.length:X):Z):=(by rw[Int.sub_zero];grind [B4]);grind
theorem Uj (a:aj0) (c:a.length<=12):ae (z9 (a,())) (λb=>b.1.Pairwise (· <= ·)/\b.1.Perm a):=by grind [bF,acT,bv,TX,Tn,z9]
section
open Go
theorem VQ (h:c.Pairwise (· <= ·)):(akO c).length<c.length↔¬c.Nodup:=by
 have g:(akO c).length=((bL c.length).filter (amV c.toArray)).length:=(by simp[akO,Lib.compactUpTo]);have e:(∀a,a<c.length->amV c.toArray a=bp)↔c.Nodup:=by
  have f:∀a,(b:a<c.length)->(amV c.toArray a=bp↔a=0\/c[a]≠c[a-1]):=λa b=>(by grind [amV]);constructor
  ·intro b;have d:c.Pairwise (· < ·):=by
    grind [aj2,Bo]
   exact d.imp (λb=>by omega)
  grind [amb]
 grind [cm,amW,List.length_filter_eq_length_iff,alp,aku]
def afs (a:aj0) (e:a.length<=12):De (a,())=Y (bu (¬a.Nodup),()):=by obtain⟨c,g,h,b⟩:=Uj a e;have f:=b.length_eq;unfold De BX;simp only[g,jv,aI];rw[show b3 a.length 1000000=bp from apc aa];simp only[bH];rw[show b3 c.1.length 1000000=bp from apc aa];simp only[bH,jv];have d:bu ((akO c.1).length<a.length)=bu (¬a.Nodup):=(by rw[akd,<-f,VQ h,b.nodup_iff]);rw[d]
def h3 (a:X) (b:X->X->bA):ey:=aF a λc=>aF a (b c)
theorem A1 (a:X) (b:X->X->bA):(h3 a b).length=a:=cN a _
def PD (d:∀b c,b<a->c<a->i b c=t b c):h3 a i=h3 a t:=eD λb e=>eD λc f=>d b c e f
theorem LW (a:X) (e:a<=4294967296):zU ((a:Z),())=Y (h3 a λ_ _=>br,()):=by
 unfold zU;simp only[];rw[iP e];simp only[aI];refine af (y:=(h3 a λ_ _=>br,())) (A0 a (λd=>(aF a (λb=>if b<d then bJ a br else[]),())) 0 bo ?_ (c5 _) ?_ ?_) rfl
 ·rw[jY];simp
 ·intro d _ f;simp(disch:=omega) only[cN,wM,cW,ax,aI,fB,gP,hI,jd];congr 4;refine eD λb c=>?_;simp only[eI];grind
 simp only[wM,cW];rw[aw aa];congr 2;refine b4 (·,()) (eD λb c=>?_);rw[ax c,jY]
theorem LR {n:X} {B:X->X->bA} {i j:X} (k:i<n) (l:j<n):zX (h3 n B,(i:Z),(j:Z),())=Y (h3 n (λa b=>B a b||(bu (i≠j)&&((bu (a=i)&&bu (b=j))||(bu (a=j)&&bu (b=i))))),()):=by
 unfold zX;simp only[fq];by_cases e:i=j
 ·simp_all
 rw[aC (aa:¬((i:Z)=(j:Z)))];unfold h3;simp(disch:=omega) only[ml,bH,cN,fB,aI,gP,jv,hI];rw[show eI (λg=>aF n (B g)) i (aF n (eI (B i) j bp)) j=aF n (B j) from hL _ _ (λd=>e d.symm)];simp(disch:=omega) only[cN,fB,aI,gP,jv,hI];congr 2;refine eD λa h=>?_;simp only[eI];by_cases c:a=j
 ·rw[ax c,c];grind [eD,eI]
 rw[aw c];by_cases f:a=i
 ·subst f;rw[ax bo];grind [eD,eI]
 simp_all
theorem TZ (j:b<=4294967296) (f:a<b):Db (h3 b i,(a:Z),())=Y (cO ((bL b).filter (i a)),()):=by
 unfold Db;simp only[];rw[show aj (h3 b i) (a:Z)=Y (aF b (i a)) from vy f];simp only[aI];refine af (y:=(cO ((bL b).filter (i a)),())) (A0 b (λc=>(cO ((bL c).filter (i a)),())) 0 bo rfl (c5 _) ?_ ?_) rfl
 ·intro c _ g;have h:(cO ((bL c).filter (i a))).length<=c:=(by grind [aku,hV]);have e:cO ((bL (c+1)).filter (i a))=if i a c=bp then cO ((bL c).filter (i a))++[(c:Z)] else cO ((bL c).filter (i a)):=by
   grind [akp,yw,cO]
  simp(disch:=omega) only[cN,cW,ax,vy,aI,jd];rw[e];by_cases d:i a c=bp
  ·rw[ax d,d,eC (by grind)];rfl
  grind
 simp_all [cN,cW,aw]
def kc (a:X) (b:X->X->bA):eA:=aF a λc=>cO ((bL a).filter (b c))
theorem LP (e:a<=4294967296):zW (h3 a i,())=Y ((kc a i,()),()):=by
 unfold zW;simp only[A1];rw[iP e];simp only[aI];refine af (y:=(([],()),(kc a i,()),())) (A0 a (λd=>(([],()),(aF a (λb=>if b<d then cO ((bL a).filter (i b)) else[]),()),())) 0 bo ?_ (c5 _) ?_ ?_) rfl
 ·rw[jY];simp
 ·intro d _ f;simp(disch:=omega) only[cW,ax,TZ,aI,cN,fB,gP,jv,hI,jd];congr 6;refine eD λb c=>?_;simp only[eI];grind
 simp only[cW];rw[aw aa];have:(aF a λb=>if b<a then cO ((bL a).filter (i b)) else[])=kc a i:=eD λb c=>(by rw[ax c]);grind
end
section
open Go
def e2 (a:aj0) (b:X):Prop:=a.length=b/\(∀c∈a,0<=c/\c<(b:Z))/\a.Nodup
open Classical in
theorem T6 (a:aj0) (c:X) (s:c<=4294967296):DP (a,(c:Z),())=Y (bu (e2 a c),()):=by
 unfold DP;simp only[fq];by_cases m:a.length=c
 ·rw[aJ (aa:(((a.length:X):Z)=(c:Z)))];simp only[gI,bR,iP s,aI,jY];rw[<-bN];refine bF (P:=λu=>match u with|.inl _=>e2 a c|.inr v=>v=(br,())/\¬e2 a c) ?_ ?_
  ·refine ae.for c (λb w=>w=(aF c (λp=>bu ((p:Z)∈a.take b)),())/\(∀e,(d:e<a.length)->e<b->0<=a[e]/\a[e]<(c:Z))/\(a.take b).Nodup) (i0:=0) rfl ⟨ac,λe _ d=>by omega,ac⟩ (c5 _) ?_ ?_
   ·rintro b _ _ x ⟨rfl,t,q⟩;have l:b<a.length:=aa;have k:aj a (b:Z)=Y a[b]:=fu (bk l);have o:a[b]∈a:=cG l;simp(disch:=omega) only[cW,ax,k,aI,xl];by_cases i:a[b]<0
    ·rw[ax i];exact bv.2 ⟨bo,λd=>by have:=d.2.1 _ o;omega⟩
    rw[aw i];by_cases j:a[b]>=(c:Z)
    ·rw[ax j];exact bv.2 ⟨bo,λd=>by have:=d.2.1 _ o;omega⟩
    rw[aw j];obtain⟨f,h⟩:∃f:X,a[b]=(f:Z):=⟨a[b].toNat,aa⟩;have B:f<c:=aa;rw[h];simp(disch:=omega) only[cN,fB,aI,gP,cW];by_cases g:(f:Z)∈a.take b
    ·rw[ax g];refine bv.2 ⟨bo,λd=>?_⟩;obtain⟨D,r,n⟩:=hG.1 g;simp only[gK] at r;simp only[List.getElem_take] at n;have:=(uh d.2.2).1 (n.trans h.symm);omega
    rw[aw g];simp(disch:=omega) only[aI,k,h,cN,fB,gP,hI,jd];have A:a.take (b+1)=a.take b++[(f:Z)]:=(by grind [tQ]);refine bv.2 ⟨bo,?_,λe y z=>?_,?_⟩
    ·show((_,()):_×bt)=_;refine b4 (·,()) (eD λp _=>?_);simp only[eI];grind
    ·grind
    grind
   rintro _ ⟨rfl,t,q⟩;simp(disch:=omega) only[cW,aw];refine bv.2 ⟨m,λE C=>?_,?_⟩
   ·grind [ale]
   grind
  grind [bv,aJ,aC]
 rw[aC (aa:¬(((a.length:X):Z)=(c:Z)))];simp only[ml,bH];rw[aC (λd=>m d.1)]
def mI (a:eA) (b:aj0):Z:=open Classical in if it a≠0 then it a else if b.length≠a.length then 2 else if e2 b a.length then 0 else 90
theorem KI (d:∀h∈k,h.length<4611686018427387904) (a:aj0):q2 ((k,()),a,())=Y (if mI k a=0 then((jZ (ke k a),()),0,()) else(([],()),mI k a,())):=by
 classical
 unfold q2 mI;simp only[BE k d,aI,fq];by_cases c:it k=0
 ·obtain⟨g,e⟩:=pU.1 c;rw[aJ c];simp only[gI,bR,c,ne_eq,alK,akT];by_cases f:a.length=k.length
  ·rw[aJ (aa:(((a.length:X):Z)=((k.length:X):Z)))];simp only[gI,bR,f,alK,akT];rw[T6 a k.length aa];simp only[aI];by_cases b:e2 a k.length
   ·rw[aJ b];simp only[gI,bR,ax b,cg];rw[TV e d g b.2.1 b.2.2 aa];rfl
   grind
  grind
 grind
theorem af1 (b:eA) (a:Z):Df ((b,()),a,())=Y (bu (0<=a/\a<(b.length:Z)),()):=by unfold Df;grind
theorem acJ (d:eA) (a:aj0) (j:a.length<4611686018427387904):DG (a,(Y (d,()),()),())=Y (bu (¬∀c∈a,0<=c/\c<(d.length:Z)),()):=by
 classical
 unfold DG HV;simp only[];rw[<-bN];have i:(∀c∈a,0<=c/\c<(d.length:Z))↔∀b,b<a.length->∀e:b<a.length,0<=a[b]/\a[b]<(d.length:Z):=
  ⟨λe b _ f=>e _ (cG f),λe c k=>by grind [ale]⟩
 refine bF (P:=λg=>bu (g.1>=0)=bu (¬∀c∈a,0<=c/\c<(d.length:Z))) ?_ (λg h=>bv.2 (by rw[h]));refine bF (Jn a.length (λb=>∀e:b<a.length,0<=a[b]/\a[b]<(d.length:Z)) ?_ ?_) ?_
 ·intro b f;simp(disch:=omega) only[cW,ax,fu (bk f),aI,jd];unfold HI;simp only[aI,af1];grind
 ·grind
 grind [bv,aC,aJ]
theorem T7 (i:∀n∈k,n.length<4611686018427387904) (a:aj0) (l:k.length<=200->fa k->k.length<=12) (m:a.length<4611686018427387904):Da ((k,()),a,())=Y (mI k a,()):=by
 classical
 unfold Da mI;simp only[Gy k i,aI,fq];by_cases e:it k=0
 ·obtain⟨j,h⟩:=pU.1 e;have o:=l j h;rw[aJ e];simp only[gI,bR,e,ne_eq,alK,akT];by_cases f:a.length=k.length
  ·rw[aJ (aa:(((a.length:X):Z)=((k.length:X):Z)))];simp only[gI,bR,f,alK,akT];rw[acJ k a m];simp only[aI];by_cases b:∀g∈a,0<=g/\g<(k.length:Z)
   ·rw[aC (ake b)];simp only[aks,bH];rw[afs a aa];simp only[aI,cW];by_cases c:a.Nodup
    ·rw[aw (ake c),ax ⟨f,b,c⟩]
    rw[ax c,aw (λd=>c d.2.2)]
   rw[aJ b,aw (λd=>b d.2.1)];rfl
  grind
 grind
end
section
open Go
def p8 (c:eA) (a:aj0) (b d:X):bA:=bu (a.getD d 0∈c.getD (a.getD b 0).toNat [])
theorem OX (l:fa k) (i:∀d∈c,0<=d/\d<(k.length:Z)) (m:a<c.length) (n:b<c.length):p8 k c a b=p8 k c b a:=by have o:=i _ (cG m);have p:=i _ (cG n);have u:∀d e:Z,0<=d/\d<(k.length:Z)->0<=e/\e<(k.length:Z)->e∈k.getD d.toNat []->d∈k.getD e.toNat []:=λd e s t h=>(by obtain⟨f,rfl⟩:∃f:X,d=(f:Z):=⟨d.toNat,aa⟩;obtain⟨g,rfl⟩:∃g:X,e=(g:Z):=⟨e.toNat,aa⟩;simp only[fF] at h|-;have j:f<k.length:=aa;have r:g<k.length:=aa;rw[x6 j] at h;obtain⟨_,q⟩:=amR l f g ⟨j,h⟩;grind);unfold p8;grind
theorem Xq (f:fa k) (g:∀e∈c,0<=e/\e<(k.length:Z)):kc c.length (λa b=>bu (a≠b)&&p8 k c a b)=jZ (ke k c):=by unfold kc jZ;rw[ya];refine ju λi d=>?_;have d:=jJ.1 d;unfold cO mH;refine b4 _ (qz λj h=>?_);grind [Bool.or_self,OX,Hi,p8]
theorem XQ (s:fa k) (t:∀c∈k,c.length<4611686018427387904) (x:∀p∈c,0<=p/\p<(k.length:Z)) (G:c.length<=400):Dd ((k,()),c,())=Y ((jZ (ke k c),()),()):=by
 generalize n:c.length=d at*
 let h:X->X->X->X->bA:=λa b e f=>bu (e≠f)&&(p8 k c e f&&((bu (e<a)&&bu (f<a))||((bu (e=a)&&bu (f<b))||(bu (f=a)&&bu (e<b)))))
 unfold Dd;simp only[n];rw[LW d aa];simp only[aI];refine af (y:=(([],()),h3 d (h d 0),())) (A0 d (λa=>(([],()),h3 d (h a 0),())) 0 bo ?_ (c5 _) ?_ ?_) ?_
 ·grind
 ·intro a _ w;have m:a<c.length:=aa;have u:aj c (a:Z)=Y c[a]:=fu (bk m);have l:=x _ (cG m);obtain⟨g,o⟩:∃g:X,c[a]=(g:Z):=⟨c[a].toNat,aa⟩;have i:g<k.length:=aa;simp(disch:=omega) only[cW,ax,u,aI,yx,n,rv,jv,o,mT];have z:(c.take a).length=a:=(by grind);refine af (y:=(([],()),h3 d (h a a),())) (A0 a (λb=>(([],()),h3 d (h a b),())) 0 bo rfl (c5 _) ?_ ?_) ?_
  ·intro b _ E;have F:b<c.length:=aa;have v:aj (c.take a) (b:Z)=Y c[b]:=fu (by grind);simp(disch:=omega) only[z,cW,ax,v,aI,jd];rw[I4 k g c[b] i (t _ (cG i)) ((GZ k).1 s g i).1];simp only[aI,cW];have q:p8 k c a b=bu (c[b]∈k[g]):=by
    grind [x6,akz,p8]
   have r:p8 k c b a=bu (c[b]∈k[g]):=(by grind [OX]);by_cases j:c[b]∈k[g]
   ·rw[ax j,LR w aa];simp only[aI];refine b4 (λA=>Y (Sum.inl (((b+1:X):Z),([],()),A,()))) (PD λe f _ _=>?_);rw[aJ j] at q r;simp only[h];rw[wy];simp only[jr,cE,akn];constructor
    ·rintro(⟨l,C,D⟩|⟨l,⟨rfl,rfl⟩|⟨rfl,rfl⟩⟩)
     ·grind
     ·grind
     grind
    grind
   grind
  ·grind
  simp(disch:=omega) only[jd];grind
 ·grind
 rw[LP aa];simp only[aI];have B:kc d (h d 0)=kc d (λe f=>bu (e≠f)&&p8 k c e f):=(by refine eD λg o=>b4 cO (qz λI H=>?_);grind);grind [Xq]
theorem Ud (c:∀j∈k,j.length<4611686018427387904) (a:aj0) (g:k.length<=200->fa k->k.length<=12) (h:a.length<4611686018427387904):zV ((k,()),a,())=Y (if mI k a=0 then((jZ (ke k a),()),0,()) else(([],()),mI k a,())):=by
 classical
 unfold zV;simp only[T7 c a g h,aI,fq];by_cases b:mI k a=0
 ·rw[aJ b,ax b];simp only[gI,bR];have e:it k=0:=by
   by_cases i:it k=0
   ·exact i
   simp_all [ax,mI,absurd]
  obtain⟨l,f⟩:=pU.1 e;have d:e2 a k.length:=(by unfold mI at b;grind);rw[XQ f c d.2.1 (by have:=d.1;omega)];rfl
 grind
end
def j1 (E:bn cT) (b c:X):bA:=E.any λa=>bu (a.1≠a.2.1)&&((bu ((b:Z)=a.1)&&bu ((c:Z)=a.2.1))||(bu ((b:Z)=a.2.1)&&bu ((c:Z)=a.1)))
def lO (E:bn cT) (b c:X):bA:=E.any λa=>bu ((b:Z)=a.1)&&bu ((c:Z)=a.2.1)
theorem G7 {b:g->bA} {E:bn g} (c:a<E.length):(E.take (a+1)).any b=((E.take a).any b||b E[a]):=by grind [aj5,b0]
theorem YQ (a:X) (b:X->X->bA) (e:∀c d,b c d=br):(bJ a (bJ a br))=h3 a b:=by grind [eD,jY,h3]
theorem U9 (c:b<a) (d:f<a):hy (h3 a i) b f=i b f:=by grind [j9,aF,hy,h3]
theorem Ot (d:X) (b:X->X->bA):jZ (h3 d b)=kc d λa c=>a !=c&&(b a c||b c a):=by unfold jZ;rw[A1];refine eD λa e=>?_;grind [U9,List.filter_congr,mH,cO]
theorem O2 {E:bn cT} (a b:X):(a !=b&&(lO E a b||lO E b a))=j1 E a b:=by
 induction E with
 |nil=>simp[lO,j1]
 |cons h E g=>
  unfold lO j1 at*;simp only[List.any_cons];rw[<-g,wy];simp only[cE,jr,bne_iff_ne,akn];constructor
  ·rintro⟨f,(⟨d,e⟩|c)|(⟨d,e⟩|c)⟩
   ·omega
   ·grind
   ·omega
   grind
  rintro(⟨f,⟨d,e⟩|⟨d,e⟩⟩|⟨f,c|c⟩)
  ·omega
  ·omega
  ·grind
  grind
theorem TQ (f:g4 a a o c u) (m:fQ a a o c u=0):zT (((a:Z),(a:Z),o,c,u,()),())=Y ((kc a (j1 (c3 o c u a)),()),0,()):=by
 have k:=(jU.1 m).1;have t:=re k;have y:(c3 o c u a).length<=10000:=(by rw[AH k a (cd _)];have:=k.qa a (cd _);have:=f.hi;omega);unfold zT;refine af f.check ?_;dsimp only;rw[m,fq,aJ bo,fq,aJ bo];have x:=f.hc;refine af (LW a aa) (af (TG f m) ?_);dsimp only;generalize c3 o c u a=E at*;refine bN.1 ?_;refine bF (P:=λv=>v=(([],()),h3 a (j1 E),())) ?_ ?_
 ·refine bQ E.length (λb w=>w=((b:Z),([],()),h3 a (j1 (E.take b)),E,())) rfl ?_ ?_
  ·rintro b _ l rfl;dsimp only;rw[aQ (aJ (show(b:Z)<ak E by grind)),jq l,ba aa];have s:=t E[b] (b5 l);obtain⟨d,p⟩:=cz s.1;obtain⟨e,q⟩:=cz s.2.2.1;have r:=LR (n:=a) (B:=j1 (E.take b)) (i:=d) (j:=e) aa aa;rw[<-p,<-q] at r;refine bB r (bv.2 ?_);dsimp only;have:h3 a (λg h=>j1 (E.take b) g h||(bu (d≠e)&&((bu (g=d)&&bu (h=e))||(bu (g=e)&&bu (h=d)))))=h3 a (j1 (E.take (b+1))):=by
    refine PD λz A _ _=>?_;unfold j1;rw[G7 l,p,q];grind
   grind
  rintro _ rfl;dsimp only;rw[aM (aC (show¬((E.length:Z)<ak E) by grind)),ck (cd _)];grind [bv]
 grind [bB,LP,bv]
theorem RG (f:g4 a a n c o) (j:fQ a a n c o=0):sR (((a:Z),(a:Z),n,c,o,()),())=Y ((kc a (j1 (c3 n c o a)),()),0,()):=by
 have h:=(jU.1 j).1;have q:=re h;have y:(c3 n c o a).length<=10000:=(by rw[AH h a (cd _)];have:=h.qa a (cd _);have:=f.hi;omega);unfold sR;refine af f.vZ ?_;dsimp only;rw[j,fq,aJ bo,fq,aJ bo];have x:=f.hc;refine af (NT a aa) (af (RF f j) ?_);dsimp only;generalize c3 n c o a=E at*;refine bN.1 ?_;refine bF (P:=λv=>v=(([],()),h3 a (lO E),())) ?_ ?_
 ·refine bQ E.length (λd w=>w=((d:Z),([],()),h3 a (lO (E.take d)),())) ?_ ?_ ?_
  ·rw[YQ a (lO (E.take 0)) λb g=>rfl];rfl
  ·rintro d _ i rfl;dsimp only;rw[aQ (aJ (show(d:Z)<ak E by grind)),ba aa];have p:=q E[d] (b5 i);obtain⟨e,r⟩:=cz p.1;obtain⟨k,s⟩:=cz p.2.2.1;have m:e<a:=aa;have t:k<a:=aa;refine bB (eR i) ?_;rw[r];refine bB (fB (by grind [A1])) (bB (eR i) ?_);rw[s];unfold h3;rw[gP m,bM];refine bB (fB (by grind [cN])) ?_;rw[gP m,gP t,hI,al9,bM,hI];refine bv.2 ?_;have:aF a (eI (λb=>aF a (lO (E.take d) b)) e (aF a (eI (lO (E.take d) e) k bp)))=aF a λb=>aF a (lO (E.take (d+1)) b):=by
    refine eD λb z=>?_;by_cases l:b=e
    ·subst l;grind [hL,aC,g9,G7,eD,lO]
    rw[hL _ _ l];grind [G7,aC,eD,lO]
   grind
  rintro _ rfl;dsimp only;rw[aM (aC (show¬((E.length:Z)<ak E) by grind)),ck (cd _)];grind [bv]
 rintro _ rfl;dsimp only;refine bB (LN _ (λA u=>?_) (by grind [A1])) (bv.2 ?_)
 ·rw[A1];unfold h3 aF at u;grind
 dsimp only;rw[Ot];have:(λb g=>b !=g&&(lO E b g||lO E g b))=j1 E:=(by grind [O2]);grind
section
open Go
def nN (b:aj0) (a:X):X:=(b.getD a 0).toNat
theorem e2.get {n:X} (b:e2 c n) (d:a<n):aj c (a:Z)=Y ((nN c a:X):Z)/\nN c a<n:=by have e:a<c.length:=(by rw[b.1];exact d);have f:=b.2.1 _ (cG e);grind [fu,b0,x6,nN]
theorem e2.inj (d:e2 c f) (i:a<f) (j:b<f) (e:nN c a=nN c b):a=b:=by have g:a<c.length:=(by rw[d.1];exact i);have h:b<c.length:=(by rw[d.1];exact j);have k:=d.2.1 _ (cG g);have l:=d.2.1 _ (cG h);unfold nN at e;rw[x6 g,x6 h] at e;exact(uh d.2.2).1 aa
end
section
open Go
theorem Zu:∀{n:X} {a:ajZ},a.Nodup->(∀d∈a,d<n)->a.length<=n:=by
 intro n
 induction n with
 |zero=>intro a _ b;cases a with
  |nil=>grind
  |cons e a=>grind [an0]
 |succ n g=>
  intro a c b;have f:(a.erase n).Nodup:=c.erase n;grind
section
variable {A:eA} (B:fa A)
include B
end
end
section
open Go
def Er (A:eA) (a:Z):X:=(A.getD a.toNat []).length
section
variable {A:eA} (B:fa A) (C:A.length<=200)
include B C
end
end
section
open Go
def Pp (a:eA) (b c:Z):Prop:=Er a b<Er a c\/(Er a b=Er a c/\b<c)
instance(a:eA) (b c:Z):akA (Pp a b c):=by unfold Pp;exact inferInstance
end
section
open Go
def hK (o:aj0) (a:X):X:=o.idxOf (a:Z)
section
variable {o:aj0} {n:X} (A:e2 o n)
include A
theorem e2.mem (j:a<n):(a:Z)∈o:=by
 apply Classical.byContradiction;intro d;obtain⟨g,h,i⟩:=A;have e:o=cO (o.map an2):=by
  unfold cO;rw[ui]
  conv=>lhs;rw[<-List.map_id o]
  grind [akt]
 have b:(o.map an2).Nodup:=(by grind [aj2,b5]);have c:a∉o.map an2:=λf=>d (by grind);have:=Zu (n:=n) (kp.2 ⟨c,b⟩) (λl k=>by
  grind)
 grind
theorem e2.pos (d:a<n):hK o a<n/\nN o (hK o a)=a:=by have b:=A.mem d;have c:hK o a<o.length:=GI.2 b;refine⟨by rw[<-A.1];exact c,?_⟩;grind [x6,hK,nN]
theorem e2.Rr (b:a<n):hK o (nN o a)=a:=by have c:=(A.get b).2;obtain⟨d,e⟩:=A.pos c;exact A.inj d b e
end
section
variable {B:eA} (C:fa B) {o:aj0} (A:e2 o B.length)
include C A
end
end
def mP (E:bn cT) (b c:Z):Z:=match E.find? λa=>bu (a.1=b)&&bu (a.2.1=c) with
 |some a=>a.2.2.1
 |none=>0
theorem WA {E:bn cT} (i:E.Pairwise hj) {a:cT} (c:N∈E) (d:a∈E) (g:N.1=a.1) (h:N.2.1=a.2.1):N=a:=by
 obtain⟨e,j,rfl⟩:=hG.1 c;obtain⟨f,k,rfl⟩:=hG.1 d;rcases uq e f with b|b|b
 ·grind [aj2,hj]
 ·grind
 grind [aj2,hj]
theorem Te {E:bn cT} (e:E.Pairwise hj) (f:N∈E):mP E N.1 N.2.1=N.2.2.1:=by
 unfold mP;cases b:E.find? λa=>bu (a.1=N.1)&&bu (a.2.1=N.2.1) with
 |none=>
  grind
 |some a=>
  have c:=List.find?_some b;have d:=GJ b;simp only[cE,akn] at c;grind [WA]
theorem afU {E:bn cT} (b:∀a∈E,¬(a.1=d/\a.2.1=l)):mP E d l=0:=by grind [List.find?_eq_none,mP]
theorem Tf {E:bn cT} (d:(E++[N]).Pairwise hj) (b c:Z):mP (E++[N]) b c=if N.1=b/\N.2.1=c then N.2.2.1 else mP E b c:=by
 by_cases a:N.1=b/\N.2.1=c
 ·rw[ax a,<-a.1,<-a.2,Te d ac]
 rw[aw a];unfold mP;grind
theorem afS {E:bn cT} (f:∀d∈E,c9 d.2.2.1) (b c:Z):c9 (mP E b c):=by
 unfold mP;cases e:E.find? λa=>bu (a.1=b)&&bu (a.2.1=c) with
 |none=>exact⟨ab,ab⟩
 |some a=>grind
theorem afT {E:bn cT} (d:∀c∈E,cS c.2.2.1≠2047) (a b:Z):cS (mP E a b)≠2047:=by grind [apd,decide,cS,mP]
theorem PF (g:gn f b c n o) (i:a<b):N∈c3 c n o b/\N.2.1=(a:Z)↔∃d:X,c.getD a 0<=(d:Z)/\(d:Z)<c.getD (a+1) 0/\N=(n.getD d 0,(a:Z),o.getD d 0,()):=by
 have r:=g.pos a aa;have s:=g.pos (a+1) aa;constructor
 ·rintro⟨e,j⟩;obtain⟨h,m,e⟩:=A4.1 e;obtain⟨t,q,rfl⟩:=vM.1 e;have p:h=a:=(by grind);grind
 rintro⟨d,k,l,rfl⟩;refine⟨A4.2 ⟨a,i,vM.2 ⟨d-(c.getD a 0).toNat,aa,?_⟩⟩,bo⟩;grind
theorem RD (k:g4 f b n c o) (w:fQ f b n c o=0) (i:Z) (p:a<b):sP (((f:Z),(b:Z),n,c,o,()),i,(a:Z),())=Y (mP (c3 n c o b) i (a:Z),()):=by
 have g:=(jU.1 w).1;have A:=g.pos a aa;have B:=g.pos (a+1) aa;have I:=g.qa (a+1) aa;have J:=g.val;have G:=g.mono a p;have F:=g.len;have E:=k.hi;have u:=rf g b (bd _);have D:=k.hc;unfold sP;refine af (y:=.inl ()) ?_ ?_
 ·refine af k.vZ ?_;grind
 dsimp only;rw[fR (aa:a<n.length),bM];refine bN.1 ?_;obtain⟨e,x⟩:=cz A;obtain⟨h,v⟩:=cz B;have t:aj n (aH (a:Z))=Y (h:Z):=(by rw[ba aa,fR aa,v]);rw[t,x];refine bF (P:=λl=>(l=.inl ()/\∀d:X,e<=d->d<h->c.getD d 0≠i)\/∃d:X,e<=d/\d<h/\c.getD d 0=i/\l=.inr (o.getD d 0,())) ?_ ?_
 ·refine bQ (h-e) (λj C=>C=(((e+j:X):Z),())/\∀d:X,e<=d->d<e+j->c.getD d 0≠i) ⟨bo,λd r m=>absurd m aa⟩ ?_ ?_
  ·rintro j _ H ⟨rfl,q⟩;dsimp only;rw[bM,aQ (aJ (aa:((e+j:X):Z)<(h:Z)))];refine bB (fR aa) ?_;by_cases s:c.getD (e+j) 0=i
   ·rw[aQ (by grind)];refine bB (fR aa) (bv.2 ?_);grind
   rw[aM (by grind),ba aa];grind [cm,bv]
  rintro _ ⟨rfl,q⟩;dsimp only;rw[bM,aM (aC (aa:¬(((e+(h-e):X):Z)<(h:Z))))];grind [bv]
 rintro l (⟨rfl,q⟩|⟨d,r,m,s,rfl⟩)
 ·grind [PF,afU,bv]
 refine bv.2 ?_;have z:=((PF g p).2 ⟨d,aa,aa,bo⟩).1;have:=Te u z;grind
theorem KA {o:aj0} {n:X} (y:n<=10000) (z:o.length<=1000000):Ax (o,(n:Z),())=Y (open Classical in decide (e2 o n),()):=by
 classical
 unfold Ax;dsimp only;by_cases l:o.length=n
 ·rw[aM (by grind)];refine af (iP aa) ?_;refine bN.1 ?_;refine bF (P:=λp=>(p=.inl ()/\e2 o n)\/(p=.inr (br,())/\¬e2 o n)) ?_ ?_
  ·refine bQ n (λa t=>t=((a:Z),aF n (λb=>bu ((b:Z)∈o.take a)),())/\(∀c∈o.take a,0<=c/\c<(n:Z))/\(o.take a).Nodup) ?_ ?_ ?_
   ·grind [jY]
   ·rintro a _ x ⟨rfl,f,g⟩;dsimp only;rw[aQ (aJ (aa:(a:Z)<(n:Z))),eR (aa:a<o.length)];have m:o[a]'(by omega)∈o:=b5 _
    have r:o.take (a+1)=o.take a++[o[a]'(by omega)]:=by simp_all
    have h:∀c,c∈o.take (a+1)↔c∈o.take a\/c=o[a]'(by omega):=λc=>by rw[r,ha,fg]
    have q:(o.take (a+1)).Sublist o:=ama _ _;generalize B:o[a]'(by omega)=b at*
    simp only[aI];by_cases v:b<0
    ·rw[aM (show(bu (b<0)==br)=br by grind)];refine bv.2 (.inr ⟨bo,λe=>?_⟩);have:=e.2.1 b m;omega
    rw[aQ (show(bu (b<0)==br)=bp by grind)];by_cases w:b>=(n:Z)
    ·rw[aM (show(bu (b>=(n:Z))==br)=br by grind)];refine bv.2 (.inr ⟨bo,λe=>?_⟩);have:=e.2.1 b m;omega
    rw[aQ (show(bu (b>=(n:Z))==br)=bp by grind)];obtain⟨i,rfl⟩:=fZ (aa:0<=b);rw[jq (by grind [cN]),jX];by_cases j:(i:Z)∈o.take a
    ·rw[aQ (aJ j)];refine bv.2 (.inr ⟨bo,λe=>?_⟩);have:=an3 q e.2.2;grind
    rw[aM (aC j)];simp only[aI];rw[mh (by grind [cN]),hI];refine bv.2 ⟨?_,?_,?_⟩
    ·rw[ba aa];have:aF n (eI (λb=>bu ((b:Z)∈o.take a)) i bp)=aF n (λb=>bu ((b:Z)∈o.take (a+1))):=by
      refine eD λu A=>?_;by_cases k:u=i
      ·grind [g9,aJ]
      rw[hL _ _ k];refine akd.2 ⟨λd=>(h _).2 (.inl d),λd=>((h _).1 d).resolve_right λd=>k aa⟩
     grind
    ·intro c s;rcases(h c).1 s with d|d
     ·grind
     omega
    grind
   rintro _ ⟨rfl,f,g⟩;dsimp only;rw[aM (aC (aa:¬((n:Z)<(n:Z))))];rw[ck aa] at f g;exact bv.2 (.inl ⟨bo,l,f,g⟩)
  grind [bv,aJ,aC]
 rw[aQ (by grind),aC (λd=>l d.1)]
theorem FV (d:g4 a b n c o) (g:u.length<=1000000):Ay (((a:Z),(b:Z),n,c,o,()),u,())=Y (open Classical in if fQ a b n c o≠0 then fQ a b n c o else if a≠b then 5 else if e2 u a then 0 else 90,()):=by
 classical
 unfold Ay;refine af d.vZ ?_;dsimp only;have h:=d.hr;by_cases e:fQ a b n c o=0
 ·rw[e,fq,aJ bo,aw (ake bo)];by_cases f:a=b
  ·subst f;rw[fq,aJ bo,aw (ake bo)];refine af (KA aa g) ?_;grind
  grind
 grind
theorem ac8 (e:a<c.length) (g:c[a]=(b:Z)) (f:(b:Z)∉c.take a):hK c b=a:=by unfold hK;have d:c=c.take a++(c[a]::c.drop (a+1)):=(by rw[List.getElem_cons_drop,jK]);grind
theorem Rm (B:a<=10000) (C:c.length<=1000000):Eo (c,(a:Z),())=Y (open Classical in if e2 c a then(aF a (λb=>(hK c b:Z)),bp,()) else([],br,())):=by
 classical
 unfold Eo;dsimp only;by_cases p:c.length=a
 ·rw[aM (by grind)];refine af (iP aa) (af (iP aa) ?_);refine bN.1 ?_;refine bF (P:=λo=>(o=.inl (aF a (λb=>(hK c b:Z)),())/\e2 c a)\/(o=.inr ([],br,())/\¬e2 c a)) ?_ ?_
  ·refine bQ a (λd x=>x=((d:Z),aF a (λb=>if(b:Z)∈c.take d then(hK c b:Z) else 0),aF a (λb=>bu ((b:Z)∈c.take d)),())/\(∀g∈c.take d,0<=g/\g<(a:Z))/\(c.take d).Nodup) ?_ ?_ ?_
   ·grind [jY]
   ·rintro d _ A ⟨rfl,m,n⟩;dsimp only;rw[aQ (aJ (show(d:Z)<ak c by grind)),eR (aa:d<c.length)];have q:c[d]'(by omega)∈c:=b5 _
    have u:c.take (d+1)=c.take d++[c[d]'(by omega)]:=by simp_all
    have j:∀g,g∈c.take (d+1)↔g∈c.take d\/g=c[d]'(by omega):=λg=>by rw[u,ha,fg]
    have t:(c.take (d+1)).Sublist c:=ama _ _;have s:∀f:X,c[d]'(by omega)=(f:Z)->(f:Z)∉c.take d->hK c f=d:=λf=>ac8 aa
    generalize r:c[d]'(by omega)=b at*
    simp only[aI];by_cases y:b<0
    ·rw[aM (show(bu (b<0)==br)=br by grind)];refine bv.2 (.inr ⟨bo,λh=>?_⟩);have:=h.2.1 b q;omega
    rw[aQ (show(bu (b<0)==br)=bp by grind)];by_cases z:b>=(a:Z)
    ·rw[aM (show(bu (b>=(a:Z))==br)=br by grind)];refine bv.2 (.inr ⟨bo,λh=>?_⟩);have:=h.2.1 b q;omega
    rw[aQ (show(bu (b>=(a:Z))==br)=bp by grind)];obtain⟨f,rfl⟩:=fZ (aa:0<=b);rw[jq (by grind [cN]),jX];by_cases l:(f:Z)∈c.take d
    ·simp only[aI];rw[aQ (aJ l)];refine bv.2 (.inr ⟨bo,λh=>?_⟩);have:=an3 t h.2.2;grind
    simp only[aI];rw[aM (aC l)];simp only[aI];rw[mh (by grind [cN]),hI,mh (by grind [cN]),hI];refine bv.2 ⟨?_,?_,?_⟩
    ·rw[ba aa];have:aF a (eI (λb=>bu ((b:Z)∈c.take d)) f bp)=aF a (λb=>bu ((b:Z)∈c.take (d+1))):=by
      refine eD λk v=>?_;by_cases i:k=f
      ·grind [g9,aJ]
      rw[hL _ _ i];refine akd.2 ⟨λe=>(j _).2 (.inl e),λe=>((j _).1 e).resolve_right λe=>i aa⟩
     rw[this];have:aF a (eI (λb=>if(b:Z)∈c.take d then(hK c b:Z) else 0) f (d:Z))=aF a (λb=>if(b:Z)∈c.take (d+1) then(hK c b:Z) else 0):=by
      refine eD λk v=>?_;by_cases i:k=f
      ·subst i;rw[g9,ax ((j _).2 (.inr bo)),s k bo l]
      rw[hL _ _ i];have:(k:Z)∈c.take (d+1)↔(k:Z)∈c.take d:=⟨λe=>((j _).1 e).resolve_right λe=>i aa,λe=>(j _).2 (.inl e)⟩;simp_all
     grind
    ·intro g w;rcases(j g).1 w with e|e
     ·grind
     omega
    grind [List.nodup_append,cB]
   rintro _ ⟨rfl,m,n⟩;dsimp only;rw[aM (aC (show¬((a:Z)<ak c) by grind))];rw[ck aa] at m n|-;have h:e2 c a:=⟨p,m,n⟩;refine bv.2 (.inl ⟨?_,h⟩);have:aF a (λb=>if(b:Z)∈c then(hK c b:Z) else 0)=aF a (λb=>(hK c b:Z)):=eD λb r=>cc (h.mem r);grind
  rintro o (⟨rfl,e⟩|⟨rfl,e⟩)
  ·simp_all [ax,bv]
  simp_all [bv,aw]
 rw[aQ (by grind),aw (λe=>p e.1)]
def jF (a b:X) (d c e f:aj0):Z:=open Classical in if fQ a b d c e≠0 then fQ a b d c e else if a≠b then 5 else if e2 f a then 0 else 90
theorem Gg (d:jF a b o c u n=0):fQ a b o c u=0/\a=b/\e2 n a:=by unfold jF at d;grind
theorem T2 (e:g4 b a n c o) (h:u.length<=1000000) (d:jF b a n c o u≠0):q5 (((b:Z),(a:Z),n,c,o,()),u,())=Y (bq,jF b a n c o u,()):=by
 classical
 unfold q5;unfold jF at d|-;refine af e.check ?_;dsimp only;have i:=e.hr;by_cases f:fQ b a n c o=0
 ·rw[aw (ake f)] at d|-;rw[aM (by grind)];by_cases g:b=a
  ·subst g;rw[aw (ake bo)] at d|-;rw[aM (by grind)];refine af (Rm aa h) ?_;grind
  grind
 grind
def iZ (a:X) (E:bn cT) (b:aj0):eA:=jZ (ke (kc a (j1 E)) b)
theorem IL (b:X) (c:X->X->bA):∀a∈kc b c,a.length<=b:=by intro a d;unfold kc aF at d;grind [aku,hV]
theorem AP (a:X) (b:X->X->bA):(kc a b).length=a:=cN _ _
theorem Xr (c:X) (E:bn cT):kc c (j1 E)=jZ (h3 c (lO E)):=by rw[Ot];have:(λa b=>a !=b&&(lO E a b||lO E b a))=j1 E:=(by grind [O2]);grind
theorem Rk (e:a<=12) {E:bn cT} (b:e2 c a):mI (kc a (j1 E)) c=0:=by unfold mI;have d:it (kc a (j1 E))=0:=pU.2 ⟨by grind [AP],by grind [IG,Xr]⟩;rw[aw (ake d),aw (ake (by rw[AP];exact b.1)),AP,ax b]
theorem Ue (e:a<=12) {E:bn cT} (b:e2 c a):zV ((kc a (j1 E),()),c,())=Y ((iZ a E c,()),0,()):=by rw[Ud (λf d=>by have:=IL a _ f d;omega) c (λ_ _=>by grind [AP]) (by rw[b.1];omega),ax (Rk e b)];rfl
def RJ (d:a<=12) {E:bn cT} (e:e2 c a):q2 ((kc a (j1 E),()),c,())=Y ((iZ a E c,()),0,()):=by rw[KI (λf b=>by have:=IL a _ f b;omega) c,ax (Rk d e)];rfl
def x7 {E:bn cT} (b:e2 c a):(iZ a E c).length=a:=by unfold iZ;rw[Xf,ya,b.1]
def x8 (a:X) (E:bn cT) (b:aj0):fa (iZ a E b):=IG _
def OJ {n:X} (e:n<=12) {E:bn cT} (d:e2 c n):∀a∈iZ n E c,a.length<4611686018427387904:=λa b=>by have:=Xg _ a b;rw[ya,d.1] at this;omega
def adr (d:lT a n c o) (i:g4 a a n c o) (e:fQ a a n c o=0) (v:e2 u a):Ee (((a:Z),(a:Z),n,c,o,()),u,())=Y ((iZ a (fK (c3 n c o a)) u,()),()):=by have b:=(jU.1 e).1;have l:=(jU.1 e).2;have k:=rf b a (bd _);have m:=re b;have w:=d.el;have t:=d.yv;have p:=p1 b i.hw;have q:=p1 b (EJ l);unfold Ee;refine af (Kz d i e) ?_;have j:=ym k;have h:=yl m;have s:=K6 (rows:=a) (eH:=a) (E:=fK (c3 n c o a)) aa aa aa (λg f=>p g (iF.1 f).1);have r:=Hv j h (λg f=>q g (iF.1 f).1);have:=RG s r;rw[In j h] at this;refine af this ?_;exact af (RJ (di t ab) v) rfl
def TU (f:lT a n c o) (r:g4 a a n c o) (h:fQ a a n c o=0):zT (rx a a (fK (c3 n c o a)),())=Y ((kc a (j1 (fK (c3 n c o a))),()),0,()):=by have b:=(jU.1 h).1;have k:=(jU.1 h).2;have j:=rf b a (bd _);have l:=re b;have t:=f.el;have u:=f.yv;have m:=p1 b r.hw;have p:=p1 b (EJ k);have i:=ym j;have g:=yl l;have s:=K6 (rows:=a) (eH:=a) (E:=fK (c3 n c o a)) aa aa aa (λe d=>m e (iF.1 d).1);have q:=Hv i g (λe d=>p e (iF.1 d).1);have:=TQ s q;rw[In i g] at this;exact this
def fh:eP:=(br,((br,([],())),((0:Z),())))
def AD:fh=az (Y 0):=by rw[gX];rfl
def Bc:bj 0=Y 0:=by decide
theorem Ff {j:Type}:∀(i:bn (Z×j)) (c:Z) (d:j) (b:Z),fM (kh i c d) b=if b=c then Y d else fM i b
 |[],c,d,b=>by
  show(if c=b then Y d else bq)=_;by_cases e:b=c
  ·rw[ax e,ax e.symm]
  rw[aw e,aw (λf=>e f.symm)];rfl
 |(a,u)::r,c,d,b=>by
  unfold kh;by_cases g:c<a
  ·rw[ax g];show(if c=b then Y d else fM ((a,u)::r) b)=_;grind
  rw[aw g];by_cases h:c=a
  ·rw[ax h];show(if c=b then Y d else fM r b)=_;by_cases e:b=c
   ·rw[ax e,ax e.symm]
   rw[aw e,aw (λf=>e f.symm)];show _=(if a=b then Y u else fM r b);grind
  rw[aw h];show(if a=b then Y u else fM (kh r c d) b)=_;rw[Ff r c d b];show _=if b=c then Y d else(if a=b then Y u else fM r b)
  grind
abbrev n6:=bw (bn (Z×eP)×X)
variable{Q:bn n6}
def oB (a b:Z):Z:=if b>a then b else a
def nI (a b:Z):Z:=if b<a then b else a
def h9 (E:bn cT) (a:aj0) (b c:X):ajU:=bj (mP E (oB (a.getD b 0) (a.getD c 0)) (nI (a.getD b 0) (a.getD c 0)))
theorem Wz (E:bn cT) (a:aj0) (b c:X):h9 E a b c=h9 E a c b:=by grind [oB,nI,h9]
structure k7 (n:X) (o:aj0) (D:bn cT) (M:bn n6):Prop where
 len:M.length=n
 get:∀p,p<n->∃l c,M[p]?=Y (Y (l,c))/\∀q,q<n->p<=q->(fM l (q:Z)).getD fh=az (h9 D o p q)
def k7.nil:k7 a c [] (aF a λ_=>Y ([],0)) where
 len:=cN _ _
 get:=λd b=>⟨[],0,j9 b,λe _ _=>by
  show fh=az (bj 0);rw[Bc,AD]⟩
theorem FO (d:e2 c b) (e:a<b):c.getD a 0=(nN c a:Z)/\nN c a<b:=by have f:a<c.length:=(by rw[d.1];exact e);have:=d.2.1 c[a] (cG f);grind [iY,nN]
theorem ac9 (d:e2 c b) {e:X} (j:e<b) (i:a<b) (n:a<=e) (g:f<b) (h:s<b) (o:f<=s):(nI (hK c e:Z) (hK c a:Z)=(f:Z)/\oB (hK c e:Z) (hK c a:Z)=(s:Z))↔(e:Z)=oB (c.getD f 0) (c.getD s 0)/\(a:Z)=nI (c.getD f 0) (c.getD s 0):=by
 obtain⟨k,p⟩:=FO d g;obtain⟨ay,r⟩:=FO d h;obtain⟨u,v⟩:=d.pos j;obtain⟨l,m⟩:=d.pos i;have q:=d.Rr g;have t:=d.Rr h;rw[k,ay];constructor
 ·grind [ao,oB,nI,hK]
 grind [nN,nI,oB,ao]
theorem k7.skip {b:bn cT} (d:k7 a c b Q) (k:(b++[N]).Pairwise hj) (o:N.1<N.2.1):k7 a c (b++[N]) Q where
 len:=d.len
 get:=λm h=>by obtain⟨l,e,f,g⟩:=d.get m h;refine⟨l,e,f,λn j i=>?_⟩;rw[g n j i];unfold h9;rw[Tf k,aw];grind [nI,oB]
theorem k7.add (y:e2 c s) {h:bn cT} (i:k7 s c h Q) {j:X} (A:(h++[((b:Z),(a:Z),d,())]).Pairwise hj) (z:b<s) (u:a<s) (v:a<=b) (G:(f:Z)=nI (hK c b:Z) (hK c a:Z)) (F:(j:Z)=oB (hK c b:Z) (hK c a:Z)) {n:bn (Z×eP)} {B C:X} (w:Q[f]?=Y (Y (n,B))):k7 s c (h++[((b:Z),(a:Z),d,())]) (Q.set f (Y (kh n (j:Z) (az (bj d)),C))) where
 len:=by rw[apb,i.len]
 get:=λg k=>by
  have x:f<Q.length:=(hN.1 w).1;have D:∀e,e<s->g<=e->az (h9 (h++[((b:Z),(a:Z),d,())]) c g e)=if f=g/\j=e then az (bj d) else az (h9 h c g e):=by intro e m l;have:=ac9 y z u v k m l;unfold h9;rw[Tf A];grind
  by_cases p:g=f
  ·subst p;refine⟨_,_,List.getElem?_set_self x,λe m l=>?_⟩;rw[Ff,D e m l];by_cases q:j=e
   ·grind
   rw[aw aa,aw (λi=>q i.2)];obtain⟨E,o,r,t⟩:=i.get g k;grind
  obtain⟨E,o,r,t⟩:=i.get g k;grind
theorem RC (i:g4 a a o n u) (h:fQ a a o n u=0) (e:e2 c a) (m:b<a) (p:f<a):vd (((a:Z),(a:Z),o,n,u,()),c,(b:Z),(f:Z),())=Y (az (h9 (c3 o n u a) c b f),()):=by obtain⟨r,s⟩:=FO e m;obtain⟨ay,t⟩:=FO e p;have q:=e.1;have j:=p1 (jU.1 h).1 i.hw;unfold vd;refine af (fR aa) (af (fR aa) ?_);obtain⟨d,k,l⟩:∃d:X,nI (c.getD b 0) (c.getD f 0)=(d:Z)/\d<a:=(by grind [nI]);have g:=RD i h (oB (c.getD b 0) (c.getD f 0)) l;rw[<-k] at g;refine af g ?_;dsimp only;refine af (jc (afS j _ _)) rfl
theorem LX (x:lT a o n c) (p:g4 a a o n c) (z:fQ a a o n c=0) (q:e2 u a):∃d,k7 a u (c3 o n c a) d/\q5 (((a:Z),(a:Z),o,n,c,()),u,())=Y (Y ((a:Z),(iZ a (fK (c3 o n c a)) u,()),d,()),0,()):=by
 have Q:=x.yv;have h:=(jU.1 z).1;have ap:=rf h a (bd _);have a0:=re h;have bx:=q.1;have a1:=p1 h p.hw;suffices D:ae (q5 (((a:Z),(a:Z),o,n,c,()),u,())) λf=>∃d,k7 a u (c3 o n c a) d/\f=(Y ((a:Z),(iZ a (fK (c3 o n c a)) u,()),d,()),0,()) by obtain⟨f,am,d,an,rfl⟩:=D;grind
 unfold q5;refine bB p.check ?_;dsimp only;rw[aM (by grind),aM (by grind)];refine bB (Rm aa aa) ?_;rw[cc q];dsimp only;rw[Bool.not_true,bR];refine bB (T0 x p z) (bB (TU x p z) (bB (Ue (cu Q ab) q) ?_));dsimp only;generalize av:iZ a (fK (c3 o n c a)) u=l;refine bB (iP aa) ?_;generalize O:(((a:Z),(a:Z),o,n,c,()):c0)=J;refine bF (P:=λf=>f=(J,((a:Z),(l,()),aF a (λ_=>(Y ([],0):n6)),()),())) ?_ ?_
 ·refine bQ a (λk r=>r=((k:Z),J,((a:Z),(l,()),aF a (λj=>if j<k then(Y ([],0):n6) else bq),()),())) ?_ ?_ ?_
  ·rw[jY];rfl
  ·rintro k _ M rfl;dsimp only;rw[aQ (aJ (show(k:Z)<ak (bJ a (bq:n6)) by grind)),ba aa];refine bB (fB (by grind [cN])) ?_;rw[gP M,hI];refine bv.2 ?_;have:aF a (eI (λj=>if j<k then(Y ([],0):n6) else bq) k (Y ([],0)))=aF a (λj=>if j<k+1 then(Y ([],0):n6) else bq):=by
    refine eD λj B=>?_;by_cases w:j=k
    ·simp_all [g9,ax]
    rw[hL _ _ w];grind
   grind
  rintro _ rfl;dsimp only;rw[aM (aC (show¬((a:Z)<ak (bJ a (bq:n6))) by grind))];have:aF a (λj=>if j<a then(Y ([],0):n6) else bq)=aF a (λ_=>(Y ([],0):n6)):=eD λj B=>cc B;grind [bv]
 rintro _ rfl;dsimp only;refine bF (P:=λf=>∃d,k7 a u (c3 o n c a) d/\f=(((a:Z),(l,()),d,()),())) ?_ (by grind [bv]);subst O;refine bQ a (λb r=>∃d,k7 a u (c3 o n c b) d/\r=((b:Z),((a:Z),(a:Z),o,n,c,()),((a:Z),(l,()),d,()),())) ⟨_,k7.nil,bo⟩ ?_ ?_
 ·rintro b _ t ⟨d,m,rfl⟩;have v:=h.len;obtain⟨e,N⟩:=cz (h.pos b aa);obtain⟨i,G⟩:=cz (h.pos (b+1) aa);have a4:i<=n.length:=(by have:=h.qa (b+1) aa;omega);have bl:e<=i:=(by have:=h.mono b t;omega);have B:=h.val;have a3:=p.hi;dsimp only;rw[aQ (aJ (aa:(b:Z)<(a:Z))),ba aa];refine bB (y:=(e:Z)) (by rw[fR aa,N]) ?_;have R:c3 o n c (b+1)=c3 o n c b++iW n c (b:Z) e (i-e):=by
   grind [c3]
  have T:(c3 o n c (b+1)).Pairwise hj:=rf h (b+1) aa;refine bF (P:=λf=>∃d,k7 a u (c3 o n c (b+1)) d/\f=(((a:Z),(a:Z),o,n,c,()),((a:Z),(l,()),d,()),())) ?_ (by grind [bv]);refine bQ (i-e) (λg r=>∃d,k7 a u (c3 o n c b++iW n c (b:Z) e g) d/\r=(((e+g:X):Z),((a:Z),(a:Z),o,n,c,()),((a:Z),(l,()),d,()),())) ⟨d,by grind [iW],bo⟩ ?_ ?_
  ·rintro g _ ce ⟨d,m,rfl⟩;dsimp only;refine bB (y:=(i:Z)) (by rw[fR aa,G]) ?_;rw[aQ (aJ (aa:((e+g:X):Z)<(i:Z)))];have S:=h.rng b (e+g) t aa aa;obtain⟨f,A⟩:=cz S.1;have I:(c3 o n c b++iW n c (b:Z) e g++[((f:Z),(b:Z),c.getD (e+g) 0,())]).Pairwise hj:=by
    refine ao7 ?_ T;rw[R,k6];refine apD (apE _) ?_;have:iW n c (b:Z) e g++[((f:Z),(b:Z),c.getD (e+g) 0,())]=iW n c (b:Z) e (g+1):=(by rw[iW,A]);rw[this,Im,Im,<-EG (i-e) (g+1) _ aa];grind
   have L:c3 o n c b++iW n c (b:Z) e (g+1)=c3 o n c b++iW n c (b:Z) e g++[((f:Z),(b:Z),c.getD (e+g) 0,())]:=(by rw[k6,iW,A]);rw[L];refine bF (P:=λad=>∃d,k7 a u (c3 o n c b++iW n c (b:Z) e g++[((f:Z),(b:Z),c.getD (e+g) 0,())]) d/\ad=(((a:Z),(a:Z),o,n,c,()),((a:Z),(l,()),d,()),())) ?_ ?_
   ·refine bB (y:=(f:Z)) (by rw[fR aa,A]) ?_;rw[cW];refine akH (λw=>?_) (λw=>?_)
    ·have H:f<a:=aa;refine bB (by rw[eR (by grind [cN]),jX]) (bB (by rw[eR (by grind [cN]),jX]) ?_);obtain⟨s,E,K⟩:∃s:X,(s:Z)=nI (hK u f:Z) (hK u b:Z)/\s<a:=by
      have:=(q.pos H).1;have:=(q.pos t).1;unfold nI;split
      ·grind
      grind
     obtain⟨C,F⟩:∃C:X,(C:Z)=oB (hK u f:Z) (hK u b:Z):=(by unfold oB;grind);change ae ((bf d.length (nI (hK u f:Z) (hK u b:Z))).bind _) _;rw[<-E];refine bB (fB (by rw[m.len];omega)) ?_;refine bB (fR aa) ?_;refine bB (Bd (p.hw _ (by grind))) ?_;dsimp only;obtain⟨V,U,v,_⟩:=m.get s K;refine bB (ir v) ?_;change ae ((tp (Y (V,U)) (oB (hK u f:Z) (hK u b:Z)) _).bind _) _;rw[<-F];refine bB bo ?_;rw[ir v];exact bv.2 ⟨_,m.add q I H t aa E F v,bo⟩
    exact bv.2 ⟨d,m.skip I (by grind),bo⟩
   rintro _ ⟨d,D,rfl⟩;dsimp only;rw[ba aa];grind [bv]
  rintro _ ⟨d,m,rfl⟩;dsimp only;refine bB (y:=(i:Z)) (by rw[fR aa,G]) ?_;rw[aM (aC (aa:¬((e+(i-e):X):Z)<(i:Z)))];grind [bv]
 rintro _ ⟨d,m,rfl⟩;dsimp only;rw[aM (aC (aa:¬((a:Z)<(a:Z))))];grind [bv]
def T3 (f:a<=5) (e:g4 a a n c o) (d:fQ a a n c o=0) (g:e2 u a):∃b,k7 a u (c3 n c o a) b/\q5 (((a:Z),(a:Z),n,c,o,()),u,())=Y (Y ((a:Z),(iZ a (fK (c3 n c o a)) u,()),b,()),0,()):=LX (lT.Fw f d) e d g
theorem Sl {E:bn cT} (h:k7 a c E Q) {G:eA} (p:b<a) (q:f<a):p0 (Y ((a:Z),(G,()),Q,()),(b:Z),(f:Z),())=Y (az (h9 E c b f),()):=by
 unfold p0;dsimp only;rw[bM];have r:∀d e:X,d<a->e<a->d<=e->((aj Q (d:Z)).bind λn=>Y (((gy (α:=eP) n (e:Z)).getD (br,((br,([],())),((0:Z),())))),()))=Y (az (h9 E c d e),()):=(by intro d e k m l;obtain⟨s,o,i,j⟩:=h.get d k;refine af (fu i) ?_;have:=j e m l;rw[<-this];rfl);by_cases g:(f:Z)<(b:Z)
 ·rw[ax g,aw aa,Wz];grind
 grind
theorem JQ (a:cS d≠2047):∃c,bj d=Y c:=by
 have ao:=AI d;have g:=EF d;unfold bj;rw[aw a];unfold hq;generalize f:(if d<9223372036854775808 then if cS d=0 then g6 d else g6 d+4503599627370496 else-(if cS d=0 then g6 d else g6 d+4503599627370496))=b;have e:aS b.natAbs<=53:=fH.2 (by
  omega)
 split
 ·grind
 rw[aw aa];grind
def afm (a:X->X->Z) (c d b:X):ajU:=jo (fD (bj (a b c)) (bj (a b d)))
def KX (c:X->X->ajU) (d:X->X->Z) (a b:X):ajU:=k2 (c b a::(bL a).map (afm d b a))
def VG (b:X->X->ajU) (e:X->X->bA) (d:X->X->Z) (a c:X):Z:=
 if c=a then F6 (KX b d a a) 0 else if e a c=bp then oK (KX b d a c) (bj (F6 (KX b d a a) 0)) 0 else 0
def Jp (a:X->X->ajU) (b:X->X->bA):X->X->X->Z
 |0=>λ_ _=>0
 |j+1=>λd c=>if d=j then VG a b (Jp a b j) j c else Jp a b j d c
def Fe (b:X->X->ajU) (d:X->X->bA) (a c:X):Z:=Jp b d (a+1) a c
theorem XZ (a:c9 d):Ed (d,())=Y (bu (p9 d=0),()):=by unfold Ed;have e:p9 d=0↔d=0\/d=9223372036854775808:=(by unfold p9 cS g6;obtain⟨b,c⟩:=a;omega);grind
def Rw (a:c9 d) (b:c9 l):Aw (d,l,())=Y (az (fD (bj d) (bj l)),()):=by unfold Aw;refine af (jc a) (af (jc b) ?_);exact af (kl (gj _) (gj _)) rfl
def Ku {a b:ajU} (c:c8 a) (d:c8 b):xP (az a,az b,())=Y (oK a b 0,()):=by unfold xP;exact af (ad2 c d) rfl
theorem Fu {k:X} (b:d.natAbs=2*a+1):cY (d*2^k)=d/\hA (d*2^k)=(k:Z)-65536:=by have c:(d*2^k).natAbs=(2*a+1)*2^k:=(by rw[lK,b]);have e:=yX c;unfold cY hA;grind [anV,Int.pow_pos]
def Rt (b:d≠0) (a:X):d*2^a≠0:=ape b (by have:(0:Z)<2^a:=mS ab;omega)
theorem PJ (e:d.natAbs=2*f+1) (o:l+a+65536=(b:Z)) (m:-65536<=l) (n:l+a+aS d.natAbs<=65536):hq (d*2^a) l=Y (d*2^b):=by have k:d≠0:=aa;have g:(d*2^a).natAbs=(2*f+1)*2^a:=(by rw[lK,e]);have h:=yX g;have i:aS (d*2^a).natAbs=aS d.natAbs+a:=(by grind [lK,so]);unfold hq;rw[aw (Rt k a),h,i,aw aa];obtain⟨c,j⟩:=fZ (aa:0<=l+65536);rw[j];show Y (qk (d*2^a) (c:Z))=_;rw[nU,lC,<-mn,(aa:a+c=b)]
def Iu {m:Z} {a t k:X} (c:d=m*2^t) (b:m.natAbs=2*a+1) (f:(t:Z)+65536=(k:Z)) (e:t+aS m.natAbs<=65536):iz d=Y (m*2^k):=by unfold iz;rw[c];exact PJ b aa ab aa
def ED {a:X} (e:d.natAbs=2*a+1) (f:0<d) (c:Z):lu (Y (d*2^b)) c=mK br d.natAbs ((b:Z)-65536) br c:=by obtain⟨g,h⟩:=Fu (k:=b) e;show yJ (d*2^b) c=_;unfold yJ;rw[aw (Rt aa b),g,h,aC];have:(0:Z)<d*2^b:=alh f (mS ab);omega
theorem WL {a:X} (c:d.natAbs=2*a+1) (e:0<d):F6 (Y (d*2^b)) 0=R3 (R2 d.natAbs ((b:Z)-65536)) d.natAbs ((b:Z)-65536) 0:=by obtain⟨f,g⟩:=Fu (k:=b) c;have:(0:Z)<d*2^b:=alh e (mS ab);show(if d*2^b<0 then(9221120237041090560:Z) else if d*2^b=0 then 0 else KK (d*2^b) 0)=_;rw[aw aa,aw aa];grind [KK]
theorem WK {a b:X} (g:d.natAbs=2*a+1) (h:0<d) (c:l.natAbs=2*b+1) (e:0<l):oK (Y (d*2^f)) (Y (l*2^s)) 0=tH (qf d.natAbs l.natAbs) d.natAbs l.natAbs br ((f:Z)-65536-((s:Z)-65536)) 0:=by obtain⟨i,j⟩:=Fu (k:=f) g;obtain⟨m,n⟩:=Fu (k:=s) c;have o:(0:Z)<d*2^f:=alh h (mS ab);have p:(0:Z)<l*2^s:=alh e (mS ab);show(if l*2^s=0 then(9221120237041090560:Z) else if d*2^f=0 then 0 else Bw (d*2^f) (l*2^s) 0)=_;rw[aw aa,aw aa];grind [aC,Bw]
def EC {a t:X} (c:l.natAbs=2*a+1) (g:(if d<9223372036854775808 then if cS d=0 then g6 d else g6 d+4503599627370496 else-(if cS d=0 then g6 d else g6 d+4503599627370496))=l*2^t) (f:cS d≠2047) (h:(if cS d=0 then-1074 else cS d-1075)+(t:Z)+65536=(b:Z)) (e:(if cS d=0 then-1074 else cS d-1075)+(t:Z)+aS l.natAbs<=65536):bj d=Y (l*2^b):=by unfold bj;rw[aw f,g];refine PJ c h ?_ e;have:=AI d;omega
def f4:lu (iz 4) 0=4616189618054758400:=by rw[Iu (m:=1) (a:=0) (t:=2) (k:=65538) ab ab ab ab,ED (a:=0) ab ab];decide
def f2:lu (iz 2) 0=4611686018427387904:=by rw[Iu (m:=1) (a:=0) (t:=1) (k:=65537) ab ab ab ab,ED (a:=0) ab ab];decide
def f5:lu (iz 5) 0=4617315517961601024:=by rw[Iu (m:=5) (a:=2) (t:=0) (k:=65536) ab ab ab ab,ED (a:=2) ab ab];decide
def v4:bj 4616189618054758400=Y (1*2^65538):=EC (a:=0) (t:=52) ab ab ab ab ab
def nh:bj 4611686018427387904=Y (1*2^65537):=EC (a:=0) (t:=52) ab ab ab ab ab
def Lt:bj 4617315517961601024=Y (5*2^65536):=EC (a:=2) (t:=50) ab ab ab ab ab
def v1:bj 4607182418800017408=Y (1*2^65536):=EC (a:=0) (t:=52) ab ab ab ab ab
def aL:F6 (Y (1*2^65538)) 0=4611686018427387904:=by rw[WL (a:=0) ab ab];decide+kernel
theorem ay:oK (Y (1*2^65537)) (Y (1*2^65537)) 0=4607182418800017408:=by rw[WK (a:=0) (b:=0) ab ab ab ab];decide
theorem Iv:e2 [0,1] 2:=⟨bo,λb a=>by
 grind,ab⟩
def It:eA:=[[1],[0]]
def ms (g f e:X) (h a d:aj0):Prop:=∃c,c<=a.length/\gn g f h (a.take c) (d.take c)/\d.length=a.length/\(∀b,c<=b->b<a.length->0<=a.getD b 0/\a.getD b 0<(e:Z))/\(∀b,c<b->b<a.length->a.getD (b-1) 0<a.getD b 0)
def gn.open (d:gn b a n c o):ms b a 0 n c o:=
 ⟨c.length,bd _,by rw[fW (bd _),fW (Nat.le_of_eq d.val)];exact d,d.val,λg f e=>absurd e aa,λg f e=>absurd e aa⟩
theorem ms.skip (g:ms f b a n c o):ms f b (a+1) n c o:=by obtain⟨m,h,i,j,k,l⟩:=g;exact⟨m,h,i,j,λp d e=>by have:=k p d e;omega,l⟩
def AQ (b:a<c.length):(c++[d]).getD a 0=c.getD a 0:=by rw[n3,ug b,<-n3]
def IM:(c++[d]).getD c.length 0=d:=by rw[n3,sa (bd _)];simp
theorem ms.add (j:ms f b a n c o) (q:Z):ms f b (a+1) n (c++[(a:Z)]) (o++[q]):=by
 obtain⟨p,k,l,r,i,m⟩:=j;refine⟨p,by simp;omega,?_,by simp;omega,λe g h=>?_,λe g h=>?_⟩
 ·rw[um k,um aa];exact l
 ·rw[hW,qC] at h;rcases cR e c.length with d|d
  ·rw[AQ d];have:=i e g d;omega
  obtain rfl:e=c.length:=aa;rw[IM];omega
 rw[hW,qC] at h;rcases cR e c.length with d|d
 ·rw[AQ d,AQ aa];exact m e g d
 obtain rfl:e=c.length:=aa;rw[IM,AQ aa];exact(i (c.length-1) aa aa).2
def IN (d:a<b):(c.take b).getD a 0=c.getD a 0:=by rw[n3,sb d,<-n3]
def ms.close (s:ms b a b n c o):gn b (a+1) (n++[(c.length:Z)]) c o:=by
 obtain⟨x,m,i,t,u,v⟩:=s;have p:=i.len;have q:=i.last;rw[gK,h6 m] at q;have l:(n++[(c.length:Z)]).getD (a+1) 0=(c.length:Z):=(by rw[<-p];exact IM);have e:∀d,d<=a->(n++[(c.length:Z)]).getD d 0=n.getD d 0:=λd j=>AQ aa;have r:∀d,d<=a->n.getD d 0<=(x:Z):=λd j=>(by have:=i.qa d j;rw[gK,h6 m] at this;exact this);refine⟨by simp[p],by rw[e 0 aa];exact i.first,λd j=>?_,l,t,λd k j g h=>?_,λd k j g h=>?_⟩
 ·rcases cR d a with f|f
  ·rw[e d aa,e (d+1) aa];exact i.mono d f
  obtain rfl:d=a:=aa;rw[e d aa,l,q];omega
 ·rcases cR d a with f|f
  ·rw[e d aa] at g;rw[e (d+1) aa] at h;have w:=r (d+1) aa;have:=i.rng d k f g h;rw[IN aa] at this;exact this
  obtain rfl:d=a:=aa;rw[e d aa] at g;rw[l] at h;exact u k aa aa
 rcases cR d a with f|f
 ·rw[e d aa] at g;rw[e (d+1) aa] at h;have w:=r (d+1) aa;have:=i.asc d k f g h;rw[IN aa,IN aa] at this;exact this
 obtain rfl:d=a:=aa;rw[e d aa] at g;rw[l] at h;exact v k aa aa
theorem gn.empty (d:X):gn d 0 [0] [] []:=⟨bo,bo,λb a=>absurd a aa,bo,bo,λb c a=>absurd a aa,λb c a=>absurd a aa⟩
structure wC (P:Z->Prop) (rows eH:X) (m:c0):Prop where
 ex:∃st h2 ni,m=((rows:Z),(eH:Z),st,h2,ni,())/\gn rows eH st h2 ni/\(∀v∈ni,P v)/\h2.length<=eH*rows
abbrev r2:=wC c9
def r2.aeN (g:b<=6) (f:a<=6) (d:gn b a o c n) (e:∀h∈n,c9 h) (i:c.length<=a*b):g4 b a o c n:=by have j:a*b<=6*6:=np f g;exact⟨aa,aa,aa,by rw[d.len];omega,by rw[d.val];omega,e⟩
def TS (z:∀o,c9 o->ae (u4 (o,d,())) λF=>q F.1) (C:c.length<=9223372036854775807) (D:a<=6) (A:b<=6):ae (u3 (c,(a:Z),(b:Z),d,())) λl=>wC q a b l.1:=by
 have M:b*a<=6*6:=anZ A D;unfold u3;dsimp only;refine bF (P:=λl=>wC q a b l.2.1) ?_ (by rintro⟨G,H,_⟩ r;exact bv.2 r);refine bQ b (λg s=>∃h e f,s=((g:Z),((0:Z),((0:Z),([],([],([],()))))),((a:Z),(b:Z),h,e,f,()),())/\gn a g h e f/\(∀i∈f,q i)/\e.length<=g*a) ?_ ?_ ?_
 ·exact⟨[0],[],[],bo,gn.empty a,ac,ac⟩
 ·rintro g _ B ⟨h,e,f,rfl,u,y,J⟩;have L:g*a+a<=6*6:=by
   have:(g+1)*a<=b*a:=hR _ B;rw[kq,jL] at this;omega
  dsimp only;rw[aQ (aJ (aa:(g:Z)<(b:Z))),ba aa];refine bF (P:=λl=>∃e f,l=(((0:Z),((0:Z),([],([],([],()))))),((a:Z),(b:Z),h,e,f,()),())/\ms a g a h e f/\(∀i∈f,q i)/\e.length<=g*a+a) ?_ ?_
  ·refine bQ a (λj s=>∃e f,s=((j:Z),((0:Z),((0:Z),([],([],([],()))))),((a:Z),(b:Z),h,e,f,()),())/\ms a g j h e f/\(∀i∈f,q i)/\e.length<=g*a+j) ?_ ?_ ?_
   ·exact⟨e,f,bo,u.open,y,aa⟩
   ·rintro j _ K ⟨e,f,rfl,p,t,I⟩;have N:f.length=e.length:=by
     obtain⟨O,_,_,r,_⟩:=p;exact r
    dsimp only;rw[aQ (aJ (aa:(j:Z)<(a:Z))),ba aa];refine bF (P:=λl=>∃e f,l=(((0:Z),((0:Z),([],([],([],()))))),((a:Z),(b:Z),h,e,f,()),())/\ms a g (j+1) h e f/\(∀i∈f,q i)/\e.length<=g*a+(j+1)) ?_ ?_
    ·refine bF (Lx c C _) ?_;rintro⟨E,_⟩ w;dsimp only at w|-;rw[tN ab ab,bM];unfold iR;rw[cc ab,bM,cW];refine akH (λx=>?_) (λx=>?_)
     ·rw[eC (by simp;omega),bM];refine bF (z E w) ?_;rintro⟨i,_⟩ v;dsimp only at v|-;rw[eC (by simp;omega),bM];refine bv.2 ⟨_,_,bo,p.add i,λo n=>?_,by simp;omega⟩;rcases List.mem_append.1 n with n|n
      ·exact t o n
      obtain rfl:=fg.1 n;exact v
     exact bv.2 ⟨_,_,bo,p.skip,t,aa⟩
    rintro _ ⟨e,f,rfl,ay,k,m⟩;exact bv.2 ⟨e,f,bo,ay,k,m⟩
   rintro _ ⟨e,f,rfl,ay,k,m⟩;dsimp only;rw[aM (aC (aa:¬((a:Z)<(a:Z))))];exact bv.2 ⟨e,f,bo,ay,k,m⟩
  rintro _ ⟨e,f,rfl,ay,k,m⟩;dsimp only;rw[eC (by rw[u.len];simp;omega),bM];refine bv.2 ⟨_,_,_,bo,ay.close,k,by rw[Nat.add_mul,amX];omega⟩
 rintro _ ⟨h,e,f,rfl,ay,k,m⟩;dsimp only;rw[aM (aC (aa:¬((b:Z)<(b:Z))))];exact bv.2 ⟨h,e,f,bo,ay,k,m⟩
def r2.small (h:b<=5) (g:a<=5) (d:gn b a o c n) (e:∀i∈n,c9 i) (f:c.length<=a*b):g4 b a o c n:=
 r2.aeN (di h ab) (di g ab) d e f
def LO (f:∀e,c9 e->ae (u4 (e,d,())) λk=>q k.1) (h:c.length<=9223372036854775807) (i:b<=5) (g:a<=5):ae (u3 (c,(b:Z),(a:Z),d,())) λj=>wC q b a j.1:=
 TS f h (di i ab) (di g ab)
def TT (g:c.length<=9223372036854775807) (h:b<=5) (f:a<=5) (d:Z):ae (u3 (c,(b:Z),(a:Z),d,())) λi=>r2 b a i.1:=
 LO (λ_ e=>P8 e d) g h f
theorem afR (e:q 0) {E:bn cT} (d:∀c∈E,q c.2.2.1) (a b:Z):q (mP E a b):=by grind [apd,decide,mP]
theorem Tv (g:q 0) (h:g4 b a o n c) (k:∀d∈c,q d) (i:Z) (j:f<a):∃d,q d/\sP (((b:Z),(a:Z),o,n,c,()),i,(f:Z),())=Y (d,()):=by
 by_cases e:fQ b a o n c=0
 ·exact⟨_,afR g (p1 (jU.1 e).1 k) _ _,RD h e i j⟩
 refine⟨0,g,?_⟩;unfold sP;refine af (y:=.inr (0,())) ?_ bo;refine af h.vZ ?_;grind
theorem Uk (l:g4 f b n c o) (g:gn f b n c o) (d:s<f) (p:a<b):∃i,An (((f:Z),(b:Z),n,c,o,()),(s:Z),(a:Z),())=Y (i,()):=by
 have r:=g.pos a aa;have t:=g.pos (a+1) aa;have B:=g.qa (a+1) aa;have z:=g.mono a p;have x:=g.len;have w:=l.hi;have v:=l.hc;suffices j:ae (An (((f:Z),(b:Z),n,c,o,()),(s:Z),(a:Z),())) λm=>True by obtain⟨⟨i,_⟩,j,_⟩:=j;grind
 unfold An;dsimp only;rw[aC (aa:¬((s:Z)<0)),aC (aa:¬((s:Z)>=(f:Z))),aC (aa:¬((a:Z)<0)),aC (aa:¬((a:Z)>=(b:Z)))];refine bB (y:=.inl ()) rfl ?_;dsimp only;obtain⟨e,q⟩:=cz r;obtain⟨d,k⟩:=cz t;refine bB (y:=(e:Z)) (by rw[fR aa,q]) ?_;refine bF (P:=λm=>True) ?_ ?_
 ·refine bQ (d-e) (λh u=>u=(((e+h:X):Z),())) rfl ?_ ?_
  ·rintro h _ A rfl;dsimp only;refine bB (y:=(d:Z)) (by rw[ba aa,fR aa,k]) ?_;rw[aQ (aJ (aa:((e+h:X):Z)<(d:Z)))];refine bB (fR aa) ?_;rw[gh,cW];refine akH (λ_=>bv.2 trivial) (λ_=>?_);rw[ba aa];grind [bv]
  rintro _ rfl;dsimp only;refine bB (y:=(d:Z)) (by rw[ba aa,fR aa,k]) ?_;rw[aM (aC (aa:¬(((e+(d-e):X):Z)<(d:Z))))];exact bv.2 trivial
 rintro(_|m) _
 ·exact bv.2 trivial
 exact bv.2 trivial
structure TA (P Q:Z->Prop) (ae3:Z):Prop where
 z:P 0
 w:∀v,P v->c9 v
 q:∀v,P v->Q v
 num:∀x,c9 x->ae (u4 (x,(ts ae3 3:X),())) λy=>P y.1
 Wf:∀L:ew,L.length<=5->(∀d∈L,∃v,P v/\d=nz (bj v))->Q (lu (k2 (iz 1::L)) 2)
theorem TB {P m:Z->Prop} (s:TA P m d) (a4:c.length<=9223372036854775807) (t:a<=5):ae (Ab (c,(a:Z),d,())) λk=>wC m a a k.1:=by
 have cs:a*a<=5*5:=anZ t t;unfold Ab;refine bB (A7 d (n:=3) ab ab) ?_;refine bF (LO s.num a4 t t) ?_;rintro⟨p,_⟩ I;dsimp only at I|-;obtain⟨U,T,V,rfl,J,K,a3⟩:=I.ex;have L:=r2.small t t J (λf u=>s.w f (K f u)) a3;have H:=λ(i:Z) (g:X) (r:g<a)=>Tv s.z L K i r;have an:=λ(i g:X) (B:i<a) (r:g<a)=>Uk L J B r;generalize(((a:Z),(a:Z),U,T,V,()):c0)=p at*;refine bF (P:=λk=>wC m a a k.2.1) ?_ (by grind [bv]);refine bQ a (λg v=>∃j e b,v=((g:Z),((0:Z),((0:Z),([],([],([],()))))),p,((a:Z),(a:Z),j,e,b,()),())/\gn a g j e b/\(∀f∈b,m f)/\e.length<=g*a) ?_ ?_ ?_
 ·grind [gn.empty]
 ·rintro g _ r ⟨j,e,b,rfl,G,am,ce⟩;have ci:g*a+a<=5*5:=by
   have:(g+1)*a<=a*a:=hR _ r;grind
  dsimp only;rw[aQ (aJ (aa:(g:Z)<(a:Z))),ba aa];refine bF (P:=λk=>∃e b,k=(((0:Z),((0:Z),([],([],([],()))))),p,((a:Z),(a:Z),j,e,b,()),())/\ms a g a j e b/\(∀f∈b,m f)/\e.length<=g*a+a) ?_ ?_
  ·refine bQ a (λi v=>∃e b,v=((i:Z),((0:Z),((0:Z),([],([],([],()))))),p,((a:Z),(a:Z),j,e,b,()),())/\ms a g i j e b/\(∀f∈b,m f)/\e.length<=g*a+i) ?_ ?_ ?_
   ·exact⟨e,b,bo,G.open,am,aa⟩
   ·rintro i _ B ⟨e,b,rfl,y,S,bx⟩;have cv:b.length=e.length:=by
     obtain⟨l,_,_,ad,_⟩:=y;exact ad
    dsimp only;rw[aQ (aJ (aa:(i:Z)<(a:Z))),ba aa];refine bF (P:=λk=>∃e b,k=(((0:Z),((0:Z),([],([],([],()))))),p,((a:Z),(a:Z),j,e,b,()),())/\ms a g (i+1) j e b/\(∀f∈b,m f)/\e.length<=g*a+(i+1)) ?_ ?_
    ·have M:∀(F:Z),m F->∀f∈b++[F],m f:=λF c1 f u=>by
      grind
     rw[gh,cW];refine akH (λQ=>?_) (λQ=>?_)
     ·refine bB (BC ab ab) ?_;dsimp only;refine bF (P:=λk=>∃h:ew,k=(((0:Z),((0:Z),([],([],([],()))))),p,((a:Z),(a:Z),j,e,b,()),(iz 1::h).map az,())/\(∀o∈h,∃f,P f/\o=nz (bj f))/\h.length<=a) ?_ ?_
      ·refine bQ a (λl v=>∃h:ew,v=((l:Z),((0:Z),((0:Z),([],([],([],()))))),p,((a:Z),(a:Z),j,e,b,()),(iz 1::h).map az,())/\(∀o∈h,∃f,P f/\o=nz (bj f))/\h.length<=l) ?_ ?_ ?_
       ·simp_all
       ·rintro l _ co ⟨h,rfl,D,N⟩;dsimp only;rw[aQ (aJ (aa:(l:Z)<(a:Z))),ba aa];refine bF (P:=λk=>∃h:ew,k=(((0:Z),((0:Z),([],([],([],()))))),p,((a:Z),(a:Z),j,e,b,()),(iz 1::h).map az,())/\(∀o∈h,∃f,P f/\o=nz (bj f))/\h.length<=l+1) ?_ ?_
        ·rw[fq,<-decide_not,cW];refine akH (λR=>?_) (λR=>?_)
         ·obtain⟨x,av,a0⟩:∃x:X,(if(l:Z)<(i:Z) then(l:Z) else(i:Z))=(x:Z)/\x<a:=by
           grind
          rw[av];obtain⟨f,u,C⟩:=H (if(l:Z)>(i:Z) then(l:Z) else(i:Z)) x a0;refine bB C (bB (jc (s.w f u)) (bB (KF (gj _)) ?_));rw[eC (by grind)];refine bv.2 ⟨h++[nz (bj f)],ac,λo a1=>?_,by grind⟩;grind
         grind [bv]
        grind [bv]
       rintro _ ⟨h,rfl,D,N⟩;dsimp only;rw[aM (aC (aa:¬((a:Z)<(a:Z))))];grind [bv]
      rintro _ ⟨h,rfl,D,N⟩;dsimp only;rw[eC (by grind),bM];have bl:∀o∈iz 1::h,c8 o:=λo a1=>(by grind [UD,gj,vB]);refine bB (RM bl (by grind)) ?_;refine bB (KL (SK _)) ?_;dsimp only;rw[eC (by grind),bM];exact bv.2 ⟨_,_,bo,y.add _,M _ (s.Wf h aa D),by grind⟩
     obtain⟨O,ap⟩:=an i g B r;refine bB ap ?_;dsimp only;cases O with
     |true=>
      rw[bH,eC (by grind),bM];obtain⟨f,u,C⟩:=H (i:Z) g r;refine bB C ?_;dsimp only;rw[eC (by grind),bM];exact bv.2 ⟨_,_,bo,y.add _,M _ (s.q _ u),by grind⟩
     |false=>
      rw[bR];exact bv.2 ⟨_,_,bo,y.skip,S,aa⟩
    grind [ay,bv]
   rintro _ ⟨e,b,rfl,ay,A,E⟩;dsimp only;rw[aM (aC (aa:¬((a:Z)<(a:Z))))];grind [bv]
  rintro _ ⟨e,b,rfl,ay,A,E⟩;dsimp only;rw[eC (by rw[G.len];grind),bM];refine bv.2 ⟨_,_,_,bo,ay.close,A,by grind⟩
 rintro _ ⟨j,e,b,rfl,ay,A,E⟩;dsimp only;rw[aM (aC (aa:¬((a:Z)<(a:Z))))];exact bv.2 ⟨j,e,b,bo,ay,A,E⟩
def TC (b:c.length<=9223372036854775807) {n:X} (d:n<=5) (f:Z):ae (Ab (c,(n:Z),f,())) λe=>r2 n n e.1:=
 TB (P:=c9) ⟨⟨ab,ab⟩,λ_ a=>a,λ_ a=>a,λ_ a=>P8 a _,λ_ _ _=>wc _ _⟩ b d
theorem T5 (j:c.length<=9223372036854775807) (r:a<=12):ae (Ac (c,(a:Z),())) λd=>d.1.Perm ((bL a).map (λf:X=>(f:Z))):=by
 unfold Ac;dsimp only;refine bF (P:=λd=>d.1.Perm ((bL a).map (λf:X=>(f:Z)))) ?_ (by grind [bv]);refine bQ a (λe p=>∃b,p=(b,(e:Z),())/\b.Perm ((bL e).map (λf:X=>(f:Z)))) ⟨[],bo,amU _⟩ ?_ ?_
 ·rintro e _ q ⟨b,rfl,l⟩;have k:b.length=e:=(by have:=l.length_eq;grind);dsimp only;rw[aQ (aJ (aa:(e:Z)<(a:Z))),ba aa];refine bF (Lx c j _) ?_;rintro⟨i,_⟩ o;dsimp only at o|-;rw[tN ab ab,bM];refine bB (A7 _ (n:=e+1) aa aa) ?_;have s:=Fo (au (i/2^(1:Z).toNat)) (n:=e+1) aa;dsimp only;generalize ts (au (i/2^(1:Z).toNat)) (e+1)=d at*;refine bB (K3 aa) ?_;dsimp only;rw[eC (by grind),bM,eC (by grind),bM];have m:((fY (d:Z)).bind λg=>(Y b.length).bind λh=>(gZ g h b.length).map λ_=>(g,h))=Y (d,b.length):=by
   have:fY (d:Z)=Y d:=(by simp_all [ax,fF,fY]);rw[this];show(gZ d b.length b.length).map _=_;unfold gZ;grind
  refine bB m ?_;dsimp only;rw[eC (by grind),bM];refine bv.2 ⟨_,bo,?_⟩;rw[akp,alJ,cy];have t:b.take d++b.drop d=b:=alu d b;grind
 rintro _ ⟨b,rfl,k⟩;simp_all [bv,aM,aC]
theorem T4 (d:c.length<=9223372036854775807) {n:X} (e:n<=5):ae (Ac (c,(n:Z),())) λa=>a.1.length=n:=
 (T5 d (di e ab)).mono λa b=>by have:=b.length_eq;grind
theorem Fq (a:X):fY (a:Z)=Y a:=by simp_all [ax,fF,fY]
theorem K5 (e:b<=a) (g:a<=f):((fY (b:Z)).bind λc=>(fY (a:Z)).bind λd=>(gZ c d f).map λ_=>(c,d))=Y (b,a):=by simp_all [ax,Fq,gZ]
def afz (e:a*2^f=b*2^s) (h:0<a) (g:0<b):cZ a+f=cZ b+s/\aS a+f=aS b+s:=by have c:=b4 cZ e;have d:=b4 aS e;rw[Ln aa,Ln g] at c;rw[so aa,so g] at d;exact⟨c,d⟩
theorem PW (a:l*d=v*2^65536) (q:fv v):fD (Y l) (Y d)=Y v:=by
 show hq (cY l*cY d) (c4 l+c4 d)=Y v;have f:∀g:X,(2:Z)^g≠0:=λg=>(by have:(0:Z)<2^g:=mS ab;omega);by_cases b:l=0
 ·rw[b,px] at a;rw[b,Ft,px,(zc.1 a.symm).resolve_right (f _)];rfl
 by_cases c:d=0
 ·rw[c,al6] at a;rw[c,Ft,al6,(zc.1 a.symm).resolve_right (f _)];rfl
 have t:=tA l;have u:=tA d;have aH:=ki b;have s:=ki c;have x:=Bb.1 ⟨aa,Qb b⟩;have y:=Bb.1 ⟨aa,Qb c⟩;have o:cY l*cY d≠0:=ape aH s;have j:cZ (cY l*cY d).natAbs=0:=(by refine(Bb.2 ?_).2;rw[ub,Nat.mul_mod,x,y]);have ao:cY l*cY d*2^(cZ l.natAbs+cZ d.natAbs)=v*2^65536:=by
  rw[<-a,mn]
  conv=>rhs;rw[<-t,<-u]
  rw[lC,lC,Int.mul_left_comm (cY d)]
 have m:c4 l=(cZ l.natAbs:Z)-65536:=(by rw[c4,aw b];rfl);have n:c4 d=(cZ d.natAbs:Z)-65536:=(by rw[c4,aw c];rfl);rw[m,n];generalize cZ l.natAbs=h at*;generalize cZ d.natAbs=i at*;generalize cY l*cY d=B at*;have e:=b4 Int.natAbs ao;rw[lK,lK] at e;have r:0<v.natAbs:=ada e aa;obtain⟨k,z⟩:=afz e aa r;rw[j] at k;have A:aS v.natAbs<=131072:=q;unfold hq;rw[aw o,j,aw aa];obtain⟨w,p⟩:=fZ (aa:0<=(h:Z)-65536+((i:Z)-65536)+65536);rw[p,nU];congr 1;have:h+i=w+65536:=aa;rw[this,mn,<-lC] at ao;exact Int.mul_eq_mul_right_iff (f _)|>.1 ao
def yu (a:Z):Z:=if a<9223372036854775808 then if cS a=0 then g6 a else g6 a+4503599627370496 else-(if cS a=0 then g6 a else g6 a+4503599627370496)
def xZ (a:Z):Z:=if cS a=0 then-1074 else cS a-1075
def Is (a:cS d≠2047):-1074<=xZ d/\xZ d<=971:=by have:=AI d;unfold xZ;split<;>omega
def PS (a:Z):aS (yu a).natAbs<=53:=fH.2 (by
 have b:=EF a;have:(2:X)^53=9007199254740992:=ab;rw[this];unfold yu;split<;>split<;>omega)
theorem Fx (b:cS d≠2047):bj d=Y (yu d*2^(xZ d+65536).toNat):=by
 have h:=Is b;have g:=PS d;unfold bj;rw[aw b];change hq (yu d) (xZ d)=_;generalize yu d=f at*;generalize xZ d=c at*;unfold hq;by_cases a:f=0
 ·rw[ax a,a,px]
 rw[aw a,aw aa];obtain⟨i,e⟩:=fZ (aa:0<=c+65536);rw[e,nU,fF]
section
section
variable {A:X->X->ajU} {G:eA} {o:aj0} {n:X}
def XY (u:n<=200) (h:e2 o n):No (o,())=Y (bp,()):=by
 have l:=h.1;unfold No;dsimp only;rw[show ak o=(n:Z) by rw[a5,l]];refine af (iP aa) ?_;refine bN.1 ?_;refine bF (P:=λq=>q=.inl ()) ?_ (by rintro _ rfl;exact bv.2 bo);refine bQ n (λa r=>r=((a:Z),aF n (λb=>bu ((b:Z)∈o.take a)),())) ?_ ?_ ?_
 ·rw[jY];simp
 ·rintro a _ t rfl;dsimp only;rw[aQ (aJ (aa:(a:Z)<(n:Z))),eR (aa:a<o.length)];have j:o.take (a+1)=o.take a++[o[a]'(by omega)]:=by rw[aj5,b0 aa];rfl
  have p:=h.2.1 _ (cG (aa:a<o.length));have i:=an3 (ama (a+1) o) h.2.2;rw[j,ji] at i;have m:o[a]'(by omega)∉o.take a:=λk=>i.2.2 _ k _ (fg.2 bo) rfl
  have g:∀e,e∈o.take (a+1)↔e∈o.take a\/e=o[a]'(by omega):=λe=>by rw[j,ha,fg]
  clear i j;generalize w:o[a]'(by omega)=b at*
  obtain⟨d,rfl⟩:=fZ p.1;simp only[aI];rw[aQ (show(bu ((d:Z)<0)==br)=bp by rw[aC aa];rfl),aQ (show(bu ((d:Z)>=(n:Z))==br)=bp by rw[aC aa];rfl)];rw[jq (by rw[cN];omega),jX,aM (aC m)];simp only[aI];rw[mh (by rw[cN];omega),hI];refine bv.2 ?_;rw[ba aa];have:aF n (eI (λb=>bu ((b:Z)∈o.take a)) d bp)=aF n (λb=>bu ((b:Z)∈o.take (a+1))):=by
   refine eD λs v=>?_;by_cases f:s=d
   ·subst f;rw[g9,aJ ((g _).2 (.inr bo))]
   rw[hL _ _ f];exact akd.2 ⟨λc=>(g _).2 (.inl c),λc=>((g _).1 c).resolve_right λc=>f aa⟩
  rw[this]
 rintro _ rfl;dsimp only;rw[aM (aC (aa:¬((n:Z)<(n:Z))))];exact bv.2 bo
end
end
section
section
variable {A:X->X->ajU} {G:eA} {o:aj0} {n:X}
def AC {n j:X} (b:a<n):(j*n+a)/n=j/\(j*n+a) %n=a:=by
 constructor
 ·rw[nn,anY aa,amN b,mV]
 rw[nn,Nat.mul_add_mod,Nat.mod_eq_of_lt b]
def CK {n:X} (c:a<n) (d:b<n):a*n+b<n*n:=by have:(a+1)*n<=n*n:=hR _ c;rw[kq,jL] at this;omega
def pt {n:X} (a:n<=5):n*n<=25:=np a a
def Lv {n:X} (f:n<=5) (e:a<n) (d:b<n):au (au ((a:Z)*(n:Z))+(b:Z))=((a*n+b:X):Z):=by have h:=CK e d;have i:=pt f;have c:(a:Z)*(n:Z)=((a*n:X):Z):=(by rw[uc]);rw[c];generalize a*n=g at*;generalize n*n=j at*;rw[cD (x:=(g:Z)) aa aa,cD aa aa];omega
def Ti {n:X} (b:n<=5):au ((n:Z)*(n:Z))=((n*n:X):Z):=by have c:=pt b;have a:(n:Z)*(n:Z)=((n*n:X):Z):=(by rw[uc]);rw[a];generalize n*n=d at*;rw[cD aa aa]
end
end
section
section
variable {A:X->X->ajU} {G:eA} {o:aj0} {n:X}
def RH (a:n<=5):Av ((n:Z),(n:Z),())=Y (((n:Z),(n:Z),aF (n*n) (λ_=>fh),()),()):=by have b:=pt a;unfold Av;dsimp only;rw[Ti a];refine af (iP aa) ?_;rw[jY];rfl
def ng (b:X->eP) (c a:X):eP:=if a<c then b a else fh
theorem Ta (a:X->eP) {N p:X}:(aF N (ng a p)).set p (a p)=aF N (ng a (p+1)):=by
 rw[hI];refine eD λc _=>?_;by_cases b:c=p
 ·simp_all [ax,g9,ng]
 rw[hL _ _ b];unfold ng;grind
end
end
section
def TY (a b:aj0) (c:a.length<4611686018427387904):H4 (a,b,())=Y (a==b,()):=LQ a b c
def KW {a:ajU} (b:c8 a):u5 (az a,az a,())=Y (bp,()):=by
 unfold u5;refine af (mJ b) (af (mJ b) ?_);dsimp only;refine af (y:=(bp,())) ?_ bo;unfold H3;dsimp only;rw[aQ ac,aQ ac];refine af (y:=(bp,())) ?_ bo;unfold H2;dsimp only;rw[aQ ac];refine af (TY _ _ ?_) ?_
 ·cases a with
  |none=>exact iT (Nat.zero_lt_succ 10) ab
  |some c=>
   have d:fv c:=b c bo;have:=NU 4096 (km d);rw[gX];show(aV (cY c)).2.1.length<_;omega
 dsimp only;rw[aks]
def Sq {f:X->ajU} {N:X} (i:N<=1000000) (c:∀a,c8 (f a)):xH ((l,d,aF N (λa=>az (f a)),()),(l,d,aF N (λa=>az (f a)),()),())=Y (bp,()):=by
 unfold xH;refine af (y:=.inl ()) ?_ ?_
 ·rw[aQ ac,aQ ac,aM ac]
 dsimp only;refine bN.1 ?_;refine bF (P:=λg=>g=.inl ()) ?_ (by rintro _ rfl;exact bv.2 bo);refine bQ N (λa h=>h=((a:Z),())) rfl ?_ ?_
 ·rintro a _ e rfl;dsimp only;rw[aQ (aJ (show(a:Z)<ak (aF N λa=>az (f a)) by rw[a5,cN];omega)),ba aa];have b:aj (aF N λa=>az (f a)) (a:Z)=Y (az (f a)):=(by rw[eR (by rw[cN];exact e),jX]);refine bB b (bB b (bB (KW (c a)) ?_));dsimp only;rw[aM (show(!bp)=br from rfl)];exact bv.2 bo
 rintro _ rfl;dsimp only;rw[aM (aC (show¬((N:Z)<ak (aF N λa=>az (f a))) by rw[a5,cN];omega))];exact bv.2 bo
def aet (b a:Z):xH ((b,a,[],()),(b,a,[],()),())=Y (bp,()):=Sq (f:=λ_=>bq) (N:=0) aa (λd e c=>by cases c)
def kk (A:X->X->ajU) (n:X):bn eP:=aF (n*n) λa=>az (A (a %n) (a/n))
section
variable {n:X} {st C D o:aj0}
def T9 (i:n<=5) (r:g4 n n st C D) (q:fQ n n st C D=0) (s:e2 o n):uP (((n:Z),(n:Z),st,C,D,()),o,())=Y (((n:Z),(n:Z),kk (h9 (c3 st C D n) o) n,()),0,()):=by
 obtain⟨t,m,p⟩:=T3 i r q s;have v:=pt i;unfold uP;refine af p ?_;dsimp only;rw[aM (by rfl)];refine af bo ?_;dsimp only;rw[aM (aC (aa:¬(n:Z)>64))];refine af bo (af bo (af bo ?_));generalize c3 st C D n=E at*;generalize iZ n (fK E) o=G at*;refine bN.1 ?_;dsimp only;generalize w:(((0:Z),(0:Z),[],()):si)=d;refine bF (P:=λe=>e=(d,((n:Z),(n:Z),kk (h9 E o) n,()),())) ?_ (by rintro _ rfl;exact bv.2 bo);refine bQ n (λa f=>f=((a:Z),d,((n:Z),(n:Z),aF (a*n) (λb=>az (h9 E o (b %n) (b/n))),()),())) ?_ ?_ ?_
 ·rw[al3];rfl
 ·rintro a _ h rfl;dsimp only;rw[aQ (aJ (aa:(a:Z)<(n:Z))),ba aa];have u:a*n+n<=n*n:=by
   have:(a+1)*n<=n*n:=hR _ h;rw[kq,jL] at this;omega
  refine bB bo ?_;refine bF (P:=λe=>e=(d,((n:Z),(n:Z),aF (a*n+n) (λb=>az (h9 E o (b %n) (b/n))),()),())) ?_ (by rintro _ rfl;exact bv.2 (by rw[kq,jL]));refine bQ n (λc f=>f=((c:Z),d,((n:Z),(n:Z),aF (a*n+c) (λb=>az (h9 E o (b %n) (b/n))),()),())) rfl ?_ ?_
  ·rintro c _ g rfl;dsimp only;rw[aQ (aJ (aa:(c:Z)<(n:Z))),ba aa];refine bB (Sl m g h) ?_;dsimp only;refine bB (NJ (gj _)) ?_;dsimp only;rw[eC (by rw[cN];simp;omega),bM];refine bv.2 ?_;obtain⟨k,l⟩:=AC (n:=n) (j:=a) g;rw[<-an4,ri (a*n+c),k,l]
  rintro _ rfl;dsimp only;rw[aM (aC (aa:¬((n:Z)<(n:Z))))];exact bv.2 bo
 rintro _ rfl;dsimp only;rw[aM (aC (aa:¬((n:Z)<(n:Z))))];exact bv.2 bo
def T8 (d:g4 b a st C D) (e:o.length<=1000000) (c:jF b a st C D o≠0):uP (((b:Z),(a:Z),st,C,D,()),o,())=Y (((0:Z),(0:Z),[],()),jF b a st C D o,()):=by unfold uP;refine af (T2 d e c) ?_;dsimp only;rw[fq,aC c];rfl
def adu (g:n<=5) (q:g4 n n st C D) (l:fQ n n st C D=0) (h:e2 o n):ve (((n:Z),(n:Z),st,C,D,()),o,())=Y (((n:Z),(n:Z),kk (h9 (c3 st C D n) o) n,()),0,()):=by
 classical
 have x:=pt g;have w:=h.1;have t:=λc b (d:c<n) (e:b<n)=>RC q l h d e;unfold ve;refine af (FV q aa) ?_;have u:(if fQ n n st C D≠0 then fQ n n st C D else if n≠n then 5 else if e2 o n then 0 else 90)=0:=(by rw[cw (ake l),cw (ake bo),cc h]);rw[u];dsimp only;rw[aM (by rfl),aM (aC (aa:¬(n:Z)>64))];refine af (RH g) ?_;dsimp only;generalize c3 st C D n=E at*;refine bN.1 ?_;generalize y:(((0:Z),(0:Z),[],()):si)=f;refine bF (P:=λi=>i=(f,((n:Z),(n:Z),kk (h9 E o) n,()),())) ?_ (by rintro _ rfl;exact bv.2 bo);refine bQ n (λb k=>k=((b:Z),f,((n:Z),(n:Z),aF (n*n) (ng (λa=>az (h9 E o (a %n) (a/n))) (b*n)),()),())) ?_ ?_ ?_
 ·rw[al3];rfl
 ·rintro b _ e rfl;dsimp only;rw[aQ (aJ (aa:(b:Z)<(n:Z))),ba aa];refine bF (P:=λi=>i=(f,((n:Z),(n:Z),aF (n*n) (ng (λa=>az (h9 E o (a %n) (a/n))) (b*n+n)),()),())) ?_ (by rintro _ rfl;exact bv.2 (by rw[Nat.add_mul,amX]));refine bQ n (λc k=>k=((c:Z),f,((n:Z),(n:Z),aF (n*n) (ng (λa=>az (h9 E o (a %n) (a/n))) (b*n+c)),()),())) rfl ?_ ?_
  ·rintro c _ d rfl;dsimp only;rw[aQ (aJ (aa:(c:Z)<(n:Z))),ba aa];refine bB (t c b d e) ?_;dsimp only;have m:=CK e d;rw[Lv g e d];refine bB (fB (by rw[cN];exact m)) ?_;rw[gP m];refine bv.2 ?_;have:=Ta (λa=>az (h9 E o (a %n) (a/n))) (N:=n*n) (p:=b*n+c);obtain⟨r,s⟩:=AC (n:=n) (j:=b) d;rw[r,s] at this;rw[<-an4,<-this]
  rintro _ rfl;dsimp only;rw[aM (aC (aa:¬((n:Z)<(n:Z))))];exact bv.2 bo
 rintro _ rfl;dsimp only;rw[aM (aC (aa:¬((n:Z)<(n:Z))))];refine bv.2 ?_;have:aF (n*n) (ng (λa=>az (h9 E o (a %n) (a/n))) (n*n))=kk (h9 E o) n:=eD λa v=>cc v;rw[this]
def adt (d:g4 b a st C D) (e:o.length<=1000000) (c:jF b a st C D o≠0):ve (((b:Z),(a:Z),st,C,D,()),o,())=Y (((0:Z),(0:Z),[],()),jF b a st C D o,()):=by unfold ve;refine af (FV d e) ?_;dsimp only;change(bif jF b a st C D o !=0 then _ else _)=_;rw[fq,aC c];rfl
end
section
variable {A B:X->X->ajU} {G:eA} {o:aj0} {n:X}
def M6 (a b:Z):fI a b>0↔b<a:=by
 unfold fI;split
 ·omega
 split<;>omega
def VC (a b:Z):fI a b<0↔a<b:=by
 unfold fI;split
 ·omega
 split<;>omega
def XV:iz 0=Y 0:=rfl
end
end
section
theorem adp {st A B:aj0} (e:g4 b a st A B) {o:aj0} (f:o.length<=1000000) (d:jF b a st A B o≠0) (c:iI):xQ (((b:Z),(a:Z),st,A,B,()),o,c,())=Y (jF b a st A B o,()):=by simp_all [fq,aC,af,FV,jF,xQ]
section
variable {n:X} {st A B o:aj0}
end
end
def Kt (a b:X):(2:Z)^(a+b)=2^a*2^b:=mn 2 a b
def iC (a:X) (b:Z):Prop:=∃c,b=c*2^a
theorem iC.zero (a:X):iC a 0:=⟨0,by rw[px]⟩
theorem iC.add (c:iC a d) (b:iC a l):iC a (d+l):=by obtain⟨e,rfl⟩:=c;obtain⟨f,rfl⟩:=b;exact⟨e+f,by rw[al8]⟩
def iC.neg (b:iC a d):iC a (-d):=by obtain⟨c,rfl⟩:=b;exact⟨-c,by rw[Int.neg_mul]⟩
theorem iC.mono (e:iC b d) (c:a<=b):iC a d:=by obtain⟨g,rfl⟩:=e;obtain⟨f,rfl⟩:=Nat.exists_eq_add_of_le c;exact⟨g*2^f,by rw[alQ,Kt,lC]⟩
def iC.shl (a:X) (b:Z):iC a (b*2^a):=⟨b,bo⟩
section
def W6 {B:X} (c:B=65536) (b:cS l≠2047) (a:bj l=Y d):iC (B-1074) d:=by rw[Fx b] at a;cases a;have e:=Is b;exact(iC.shl _ _).mono aa
section
variable {A:X->X->ajU} {G:eA} {o:aj0} {n J:X}
variable {B b:X}
end
end
section
def cF (A e k c:X) (b:ajU):Prop:=∃a,b=Y a/\iC (A-e) a/\a.natAbs<=c*2^(A+k)
section
variable {A e k c B D C:X} {a b:ajU}
theorem cF.rng (h:A=65536) (j:k<=60000) (i:c<1048576) (a:d.natAbs<=c*2^(A+k)):fv d:=by have f:=l1 a;have b:aS c<=20:=fH.2 aa;have e:aS (2^(A+k))<=A+k+1:=fH.2 (Km _ _ aa);have g:=xc b e;grind [fv]
theorem cF.mono (b:cF A e k c a) (i:e<=B) (j:k<=D) (g:c<=C):cF A B D C a:=by obtain⟨h,rfl,d,f⟩:=b;exact⟨h,bo,d.mono aa,di f (np g (Rg _ _ aa))⟩
theorem cF.zero:cF A e k c (Y 0):=⟨0,bo,iC.zero _,c5 _⟩
def cF.neg (b:cF A e k c a):cF A e k c (jo a):=by obtain⟨f,rfl,d,g⟩:=b;exact⟨-f,bo,d.neg,aa⟩
theorem cF.add (m:A=65536) (o:k<=60000) (j:cF A e k c a) (h:cF A e k C b) (n:c+C<1048576):cF A e k (c+C) (gO a b)/\gO a b=Y (a.getD 0+b.getD 0):=by obtain⟨d,rfl,l,q⟩:=j;obtain⟨f,rfl,i,p⟩:=h;have g:(d+f).natAbs<=(c+C)*2^(A+k):=(by grind);have e:gO (Y d) (Y f)=Y (d+f):=(by show om (d+f)=_;unfold om;rw[ax (cF.rng m o n g)]);exact⟨⟨_,e,l.add i,g⟩,e⟩
theorem cF.mul (q:A=65536) (o:cF A e k c a) (m:cF A B D C b) (v:e+B<=60000) (s:k+D<=60000) (r:c*C<1048576):cF A (e+B) (k+D) (c*C) (fD a b)/\∃d f l,a=Y d/\b=Y f/\fD a b=Y l/\l*2^A=d*f:=by obtain⟨d,rfl,⟨g,t⟩,p⟩:=o;obtain⟨f,rfl,⟨h,u⟩,n⟩:=m;have ao:g*h*2^(A-(e+B))*2^A=d*f:=(by rw[t,u,lC (g*h),<-Kt,(aa:A-(e+B)+A=(A-e)+(A-B)),Kt];grind);have i:(g*h*2^(A-(e+B))).natAbs<=c*C*2^(A+(k+D)):=(by refine Nat.le_of_mul_le_mul_right (c:=2^A) ?_ (jN A);rw[<-lK,ao,ub];refine di (np p n) (Nat.le_of_eq ?_);grind);have j:fD (Y d) (Y f)=Y (g*h*2^(A-(e+B))):=(by refine PW ?_ (cF.rng q s r i);grind);exact⟨⟨_,j,iC.shl _ _,i⟩,d,f,_,bo,bo,j,ao⟩
def cF.kT (c:A=65536) (a:cS d≠2047):cF A 1074 1024 1 (bj d):=by obtain⟨f,b⟩:=JQ a;refine⟨f,b,W6 c a b,?_⟩;rw[Fx a] at b;obtain rfl:=gb b;have g:=Is a;have e:(yu d).natAbs<2^53:=fH.1 (PS d);rw[lK,jL];refine di (hR _ (Nat.le_of_lt e)) ?_;rw[<-jM];exact Rg _ _ aa
def cF.val (h:cF A e k c a):a=Y (a.getD 0):=by obtain⟨b,rfl,_⟩:=h;rfl
end
end
section
def nf (a c b:Z):ajU:=fD (fD (bj a) (bj c)) (bj b)
section
variable {A c:X}
end
structure a7 where
 rows:ajZ
 full:X
 s:X->X->ajU
def a7.gw (c:a7) (a b:X):Z:=lu (c.s a b) 0
def a7.av (c:a7) (a b:X):Z:=((bj (c.gw a b)).getD 0).natAbs
def a7.fin (a:a7) (c:X):Prop:=∀b∈a.rows,cS (a.gw b c)≠2047
instance(b:a7) (a:X):akA (b.fin a):=apf ..
def fS (b:X->Z) (c:X):ajZ->Z×ajV->Z×ajV
 |[],a=>a
 |i::d,a=>fS b c d (if i=c then a else if a.2=bq\/a.1<b i then(b i,Y i) else a)
def a7.h1 (b:a7) (a:X):Z×ajV:=fS (λc=>b.av c a) a b.rows (0,bq)
def a7.iU (a:a7):ajZ->bw ajZ
 |[]=>Y []
 |p::c=>if¬a.fin p then bq else
  if(a.h1 p).1=0\/41*(a.h1 p).1<=64*a.av p p then Y [p] else
  match(a.h1 p).2 with
  |none=>Y [p]
  |some b=>if b∉a.rows.take a.full then a.iU c else if¬a.fin b then bq else
   if 41*((a.h1 p).1*(a.h1 p).1)<=64*(a.av p p*(a.h1 b).1) then Y [p] else
   if 41*(a.h1 b).1<=64*a.av b b then Y [b] else Y [p,b]
def a7.choose (a:a7):bw ajZ:=a.iU (a.rows.take a.full)
structure aR where
 aP:ajZ
 d:aj0
 rows:ajZ
 l:bn (X->Z)
def kw (a:aj0):ajU:=gO (fD (bj (a.getD 0 0)) (bj (a.getD 2 0))) (jo (fD (bj (a.getD 1 0)) (bj (a.getD 1 0))))
def a7.jk (a:a7):ajZ->aj0
 |[p]=>[a.gw p p]
 |[p,r]=>[a.gw p p,a.gw r p,a.gw r r]
 |_=>[]
def a7.lc (a:a7):ajZ->bn (X->Z)
 |[p]=>[λb=>if p9 (a.gw p p)=0 then 0 else oK (a.s b p) (bj (a.gw p p)) 0]
 |[p,r]=>[λb=>oK (gO (fD (a.s b p) (bj (a.gw r r))) (jo (fD (a.s b r) (bj (a.gw r p))))) (kw (a.jk [p,r])) 0,λb=>oK (gO (fD (a.s b r) (bj (a.gw p p))) (jo (fD (a.s b p) (bj (a.gw r p))))) (kw (a.jk [p,r])) 0]
 |_=>[]
def rm (e:aj0) (f:bn (X->Z)) (b d:X):ajU:=match e,f with
 |[d0],[a]=>nf (a b) d0 (a d)
 |[d0,d1,d2],[a,c]=>gO (gO (gO (nf (a b) d0 (a d)) (nf (a b) d1 (c d))) (nf (c b) d1 (a d))) (nf (c b) d2 (c d))
 |_,_=>Y 0
def a7.elim (a:a7) (c:ajZ):a7:=⟨a.rows.filter λb=>bu (b∉c),a.full-c.length,λb d=>gO (a.s b d) (jo (rm (a.jk c) (a.lc c) b d))⟩
def a7.hu (b:a7) (a:ajZ):aR:=⟨a,b.jk a,b.rows.filter λc=>bu (c∉a),b.lc a⟩
def aR.fin (a:aR):Prop:=∀b∈a.l,∀c∈a.rows,cS (b c)≠2047
instance(a:aR):akA a.fin:=apf ..
def a7.run:X->a7->bw (a7×bn aR)
 |0,a=>Y (a,[])
 |n+1,a=>match a.choose with
  |none=>bq
  |some []=>Y (a,[])
  |some b=>if(a.hu b).fin then(a7.run n (a.elim b)).map λc=>(c.1,a.hu b::c.2) else bq
end
def fL (a:a7):db:=(cO a.rows,(a.full:Z),a.rows.map (λb=>a.rows.map λc=>az (a.s b c)),())
def a7.okd (a:a7):Prop:=∀b∈a.rows,∀c∈a.rows,c8 (a.s b c)
def F8 {a:ajU} (b:c8 a):vc (az a,())=Y (lu a 0,()):=by unfold vc;exact af (KL b) rfl
def a7.U3 (c:a7) (d:cS (c.gw a b)≠2047):nz (bj (c.gw a b))=Y (c.av a b):=by obtain⟨f,e⟩:=JQ d;unfold a7.av;rw[e];rfl
theorem Nj {c:a7} (k:c.okd) (o:c.rows.length<=1000) (j:c.rows[b]?=Y a):AA (fL c,(b:Z),())=Y (if c.fin a then(c.rows.map (λd=>az (Y (c.av d a))),bp,()) else([],br,())):=by
 have ao:ak (fL c).1=(c.rows.length:Z):=(by rw[a5];exact b4 _ (hV _));unfold AA;refine bN.1 ?_;refine bF (P:=λl=>l=if c.fin a then .inl (c.rows.map (λd=>az (Y (c.av d a))),()) else .inr ([],br,())) ?_ ?_
 ·refine bQ c.rows.length (λd m=>m=((d:Z),(c.rows.take d).map (λd=>az (Y (c.av d a))),())/\∀f∈c.rows.take d,cS (c.gw f a)≠2047) ⟨bo,ac⟩ ?_ ?_
  ·rintro d _ g ⟨rfl,h⟩;dsimp only;rw[ao,aQ (aJ (aa:(d:Z)<(c.rows.length:Z))),ba aa];refine bB (y:=c.rows.map λf=>az (c.s c.rows[d] f)) ?_ ?_
   ·rw[iy];show(c.rows.map _)[d]?=_;grind
   refine bB (y:=az (c.s c.rows[d] a)) ?_ ?_
   ·grind [iy]
   refine bB (F8 (k _ (b5 g) _ (akf j))) ?_;refine bB (wa (wc _ _)) ?_;dsimp only;by_cases e:cS (c.gw c.rows[d] a)=2047
   ·rw[aQ (by show(!(!bu (cS (c.gw c.rows[d] a)=2047)))=bp;grind)];refine bv.2 ?_;rw[aw λi=>i _ (cG g) e]
   rw[aM (by show(!(!bu (cS (c.gw c.rows[d] a)=2047)))=br;grind)];refine bB (jc (wc _ _)) (bB (KF (gj _)) ?_);dsimp only;rw[eC (by grind),bM];refine bv.2 ⟨?_,λf n=>?_⟩
   ·rw[iG,bk g,j4];rw[show nz (bj (lu (c.s c.rows[d] a) 0))=Y (c.av c.rows[d] a) from c.U3 e];rfl
   grind [aj5,b0,cB]
  rintro _ ⟨rfl,h⟩;dsimp only;rw[ao,aM (aC (aa:¬(c.rows.length:Z)<(c.rows.length:Z))),cy] at*;refine bv.2 ?_;rw[cc (show c.fin a from h)]
 rintro _ rfl;by_cases e:c.fin a
 ·rw[ax e,ax e];grind [bv]
 rw[aw e,aw e];grind [bv]
theorem Po (a:fv d) (b:fv l):sS (az (Y d),az (Y l),())=Y (bu (d<l),()):=by
 unfold sS;refine af (RL a b) ?_;show Y (bu (fI d l<0),())=_;unfold fI;by_cases c:d<l
 ·simp_all
 grind
theorem I1 {n:Z} (c:n.natAbs<1024) (d:a=65536):iz n=Y (n*2^a):=by
 have e:aS n.natAbs<=10:=fH.2 aa;unfold iz;rw[A6 (v:=n*2^a) ab (by rw[(aa:((0:Z)+65536).toNat=a)])];unfold om;rw[ax];unfold fv;rw[lK];rcases sd n.natAbs with b|b
 ·grind
 grind [so]
theorem PY (b:d.natAbs<1024) (e:fv (d*l)):fD (iz d) (Y l)=Y (d*l):=by obtain⟨a,c⟩:∃a:X,a=65536:=⟨_,bo⟩;rw[I1 b c];grind [Int.mul_assoc,alI,PW]
theorem Lg (c:c8 (Y d)) (e:c8 (Y l)) (a:fv (64*d)) (b:fv (41*l)):xU (az (Y d),az (Y l),())=Y (bu (41*l<=64*d),()):=by unfold xU;refine af (BC ab ab) (af (kl (vB _) c) (af (BC ab ab) (af (kl (vB _) e) ?_)));rw[PY ab a,PY ab b];refine af (Po a b) ?_;grind [aC,aJ]
theorem AR (d:X->Z) (c:X):∀(a b:ajZ) (e:Z×ajV),fS d c (a++b) e=fS d c b (fS d c a e)
 |[],_,_=>rfl
 |i::a,b,e=>AR d c a b _
def zz:ajV->Z
 |none=>-1
 |some a=>a
theorem Xz {vs:aj0} (t:∀e∈vs,fv e) (s:vs.length<=1000) (c:X):xT (vs.map (λe=>az (Y e)),(c:Z),())=Y (az (Y (fS (λb=>vs.getD b 0) c (bL vs.length) (0,bq)).1),zz (fS (λb=>vs.getD b 0) c (bL vs.length) (0,bq)).2,()):=by
 have n:∀a,fv (fS (λb=>vs.getD b 0) c (bL a) (0,bq)).1:=λa=>by
  induction a with
  |zero=>exact c5 _
  |succ a q=>
   rw[j5,AR,fS,fS];split
   ·exact q
   split
   ·rcases cR a vs.length with j|j
    ·grind
    show fv (vs.getD a 0);rw[n3,pE j];exact c5 _
   omega
 unfold xT;refine bN.1 ?_;refine bF (P:=λg=>∃h,g=(zz (fS (λb=>vs.getD b 0) c (bL vs.length) (0,bq)).2,h,az (Y (fS (λb=>vs.getD b 0) c (bL vs.length) (0,bq)).1),())) ?_ (by grind [bv]);refine bQ vs.length (λa g=>∃h,g=(zz (fS (λb=>vs.getD b 0) c (bL a) (0,bq)).2,(a:Z),h,az (Y (fS (λb=>vs.getD b 0) c (bL a) (0,bq)).1),())) ⟨_,bo⟩ ?_ ?_
 ·rintro a _ r ⟨h,rfl⟩;have o:=n a;have p:fS (λb=>vs.getD b 0) c (bL (a+1)) (0,bq)=if a=c then fS (λb=>vs.getD b 0) c (bL a) (0,bq) else if(fS (λb=>vs.getD b 0) c (bL a) (0,bq)).2=bq\/(fS (λb=>vs.getD b 0) c (bL a) (0,bq)).1<vs[a] then(vs[a],Y a) else fS (λb=>vs.getD b 0) c (bL a) (0,bq):=by
   grind [iY,akp,AR,fS]
  rw[p];generalize fS (λb=>vs.getD b 0) c (bL a) (0,bq)=l at*;obtain⟨f,d⟩:=l;dsimp only at o|-;rw[aQ (aJ (show(a:Z)<ak (vs.map λe=>az (Y e)) by grind)),ba aa];have m:aj (vs.map λe=>az (Y e)) (a:Z)=Y (az (Y vs[a])):=(by grind [iy,b0]);refine bF (P:=λg=>g=(zz (if a=c then(f,d) else if d=bq\/f<vs[a] then(vs[a],Y a) else(f,d)).2,h,az (Y (if a=c then(f,d) else if d=bq\/f<vs[a] then(vs[a],Y a) else(f,d)).1),())) ?_ (by grind [bv]);refine bF (P:=λg=>g=(bu (a≠c/\(d=bq\/f<vs[a])),h,az (Y f),())) ?_ ?_
  ·by_cases i:a=c
   ·subst i;rw[aM (by grind)];grind [aC,bv]
   rw[aQ (by grind)];cases d with
   |none=>
    rw[aM (by rfl)];grind [aJ,bv]
   |some d=>
    rw[aQ (by show(bu ((d:Z)<0)==br)=bp;grind)];simp_all [akd,bv,bB,Po,cG]
  rintro _ rfl;dsimp only;rw[cW];refine akH (λk=>?_) (λk=>?_)
  ·rw[aw k.1,ax k.2];exact bB m (bv.2 bo)
  by_cases i:a=c
  ·rw[ax i];grind [bv]
  rw[aw i,aw λj=>k ⟨i,j⟩];grind [bv]
 rintro _ ⟨h,rfl⟩;dsimp only;rw[aM (aC (show¬(vs.length:Z)<ak (vs.map λe=>az (Y e)) by grind))];grind [bv]
theorem iC.UC (b:iC a d):iC a (d.natAbs:Z):=by
 rcases Int.natAbs_eq d with c|c
 ·grind
 have:=b.neg;grind
def cF.abs (c:cF a f s b (Y d)):cF a f s b (Y (d.natAbs:Z)):=by obtain⟨i,g,e,h⟩:=c;cases g;exact⟨_,bo,iC.UC e,aa⟩
def a7.CL (g:a=65536) (e:a7) (c:cS (e.gw b f)≠2047):cF a 1074 1024 1 (Y (e.av b f)):=by have:=cF.kT g c;obtain⟨h,d⟩:=JQ c;rw[d] at this;unfold a7.av;rw[d];exact this.abs
theorem OG {a:X} {e:X->Z} {h:X}:∀{c:ajZ} {b:Z×ajV},(∀i∈c,cF a 1074 1024 1 (Y (e i)))->cF a 1074 1024 1 (Y b.1)->cF a 1074 1024 1 (Y (fS e h c b).1)
 |[],_,_,d=>d
 |i::c,b,f,d=>by rw[fS];refine OG (λg j=>f g (by grind)) ?_;grind
def a7.OK (e:a=65536) (c:a7) (d:c.fin b):cF a 1074 1024 1 (Y (c.h1 b).1):=OG (λg f=>c.CL e (d g f)) cF.zero
theorem cF.cJ (g:a=65536) (c:cF a s f b (Y d)) (i:f<=60000) (h:b<1048576):fv d:=by obtain⟨k,j,_,e⟩:=c;grind [cF.rng]
def cF.yP (h:f=65536) (e:cF f s a b (Y l)) (i:a<=60000) (n:b<=1024) (j:d.natAbs<=100):fv (d*l):=by obtain⟨o,m,_,g⟩:=e;cases m;refine cF.rng (c:=102400) h i ab (k:=a) ?_;rw[ub];refine di (np j g) ?_;rw[<-wQ];exact hR _ aa
theorem Xy {c:a7} (q:c.rows.Nodup) (p:c.rows[a]?=Y b):∀d,d<=c.rows.length->(fS (λf=>(c.rows.map λe=>c.av e b).getD f 0) a (bL d) (0,bq)).1=(fS (λe=>c.av e b) b (c.rows.take d) (0,bq)).1/\(∀g,(fS (λf=>(c.rows.map λe=>c.av e b).getD f 0) a (bL d) (0,bq)).2=Y g->g<d/\(fS (λe=>c.av e b) b (c.rows.take d) (0,bq)).2=c.rows[g]?)/\((fS (λf=>(c.rows.map λe=>c.av e b).getD f 0) a (bL d) (0,bq)).2=bq->(fS (λe=>c.av e b) b (c.rows.take d) (0,bq)).2=bq):=by
 obtain⟨z,rfl⟩:=hN.1 p;intro d
 induction d with
 |zero=>
  intro _;refine⟨bo,?_,λ_=>rfl⟩;intro g h;cases h
 |succ d t=>
  intro y;obtain⟨j,o,k⟩:=t aa;have r:c.rows.take (d+1)=c.rows.take d++[c.rows[d]]:=(by simp_all);have s:(c.rows.map λe=>c.av e c.rows[a]).getD d 0=c.av c.rows[d] c.rows[a]:=(by grind);have x:c.rows[d]=c.rows[a]↔d=a:=⟨λh=>(amb q).1 h,λh=>by grind⟩;rw[akp,AR,r,AR];generalize fS (λf=>(c.rows.map λe=>c.av e c.rows[a]).getD f 0) a (bL d) (0,bq)=l at*;generalize fS (λe=>c.av e c.rows[a]) c.rows[a] (c.rows.take d) (0,bq)=m at*;obtain⟨u,i⟩:=l;obtain⟨v,n⟩:=m;dsimp only at j o k;subst j;have A:i=bq↔n=bq:=by
   constructor
   ·exact k
   intro w;cases i with
   |none=>rfl
   |some g=>
    grind
  rw[fS,fS,fS,fS,s];grind
theorem OL {c:a7} (q:c.rows.length<=1000) (o:c.rows.Nodup) (l:c.rows[b]?=Y a) (m:c.fin a):∃f:ajV,xT (c.rows.map (λd=>az (Y (c.av d a))),(b:Z),())=Y (az (Y (c.h1 a).1),zz f,())/\(∀e,f=Y e->e<c.rows.length/\(c.h1 a).2=c.rows[e]?)/\(f=bq->(c.h1 a).2=bq):=by
 obtain⟨g,i⟩:∃g:X,g=65536:=⟨_,bo⟩;have h:=Xz (vs:=c.rows.map λd=>c.av d a) (λr p=>by
  obtain⟨d,n,rfl⟩:=fe.1 p;exact(c.CL i (m d n)).cJ i ab ab) (by grind) b
 obtain⟨ay,j,k⟩:=Xy o l c.rows.length (bd _);rw[hm] at ay j k;rw[ui,eM,ay] at h;exact⟨_,h,j,k⟩
def qv (a:a7) (d:ajZ) (e:aj0×bA×bt):Prop:=(e=([],br,())/\a.iU d=bq)\/∃c:ajZ,e=(cO c,bp,())/\(∀b∈c,b<a.rows.length)/\a.iU d=Y (c.map λb=>a.rows.getD b 0)
theorem qv.of {a:a7} (c:a.iU e=a.iU p) (b:qv a p O):qv a e O:=by grind [qv]
theorem OI {e:X->Z} {d:X}:∀{c:ajZ} {a:Z×ajV},(fS e d c a).2=bq->a.2=bq/\(fS e d c a).1=a.1
 |[],_,b=>⟨b,bo⟩
 |i::c,a,b=>by rw[fS] at b|-;obtain⟨f,g⟩:=OI b;grind
theorem PX {b c e:Z} (f:d*2^a=v*b) (g:l*2^a=c*e):41*d<=64*l↔41*(v*b)<=64*(c*e):=by have h:(0:Z)<2^a:=mS ab;rw[<-f,<-g,<-lC,<-lC];simp_all
theorem adE {a:a7} (J:a.okd) (p:a.rows.length<=1000) (F:a.rows.Nodup) (co:a.full<=a.rows.length):ae (Az (fL a,())) λh=>qv a (a.rows.take a.full) h:=by
 obtain⟨A,e⟩:∃A:X,A=65536:=⟨_,bo⟩;unfold Az;refine bF (P:=λf=>(f=.inl ()/\a.iU (a.rows.take a.full)=Y [])\/∃h,f=.inr h/\qv a (a.rows.take a.full) h) ?_ ?_
 rotate_left
 ·rintro _ (⟨rfl,k⟩|⟨h,rfl,k⟩)
  ·exact bv.2 (.inr ⟨[],bo,ac,k⟩)
  grind [bv]
 refine bQ a.full (λd bl=>bl=((d:Z),())/\a.iU (a.rows.take a.full)=a.iU ((a.rows.take a.full).drop d)) ⟨bo,bo⟩ ?_ ?_
 rotate_left
 ·rintro _ ⟨rfl,k⟩;dsimp only;rw[aM (aC (show¬(a.full:Z)<(fL a).2.1 from Int.lt_irrefl _))];refine bv.2 (.inl ⟨bo,?_⟩);grind [anS,aki,a7.iU]
 rintro d _ c2 ⟨rfl,am⟩;dsimp only;have a1:d<a.rows.length:=aa;have t:a.rows[d]?=Y a.rows[d]:=b0 a1;have an:(a.rows.take a.full).drop d=a.rows[d]::(a.rows.take a.full).drop (d+1):=(by grind [alO,aki]);have cv:a.rows.getD d 0=a.rows[d]:=(by grind);rw[aQ (aJ (show(d:Z)<(fL a).2.1 by show(d:Z)<(a.full:Z);omega)),ba aa];refine bF (P:=λf=>(f=.inl ()/\a.iU ((a.rows.take a.full).drop d)=a.iU ((a.rows.take a.full).drop (d+1)))\/∃h,f=.inr (.inr (.inr h))/\qv a ((a.rows.take a.full).drop d) h) ?_ ?_
 rotate_left
 ·rintro _ (⟨rfl,k⟩|⟨h,rfl,k⟩)
  ·grind [bv]
  exact bv.2 (.inr ⟨h,bo,k.of am⟩)
 rw[an];generalize(a.rows.take a.full).drop (d+1)=B;generalize a.rows[d]=b at*;refine bB (Nj J p t) ?_;by_cases l:a.fin b
 rotate_left
 ·rw[cw l];dsimp only;rw[aQ (by rfl)];refine bv.2 (.inr ⟨_,bo,.inl ⟨bo,?_⟩⟩);rw[a7.iU,cc l]
 rw[cc l];dsimp only;rw[aM (by rfl)];obtain⟨bx,S,T,U⟩:=OL p F t l;refine bB S ?_;dsimp only;have q:=a.OK e l;have V:=akf t;have v:=a.CL e (l b V);have r:c8 (Y (a.h1 b).1):=λn g=>(by cases g;exact q.cJ e ab ab);have G:c8 (Y (a.av b b)):=λn g=>(by cases g;exact v.cJ e ab ab);have D:aj (a.rows.map λx=>az (Y (a.av x b))) (d:Z)=Y (az (Y (a.av b b))):=(by grind [iy]);refine bF (P:=λf=>f=if(a.h1 b).1=0\/41*(a.h1 b).1<=64*a.av b b then .inr (.inr (.inr (.inr ([(d:Z)],bp,())))) else .inl (az (Y (a.h1 b).1),())) ?_ ?_
 ·refine bF (P:=λf=>f=(bu ((a.h1 b).1=0\/41*(a.h1 b).1<=64*a.av b b),az (Y (a.h1 b).1),())) ?_ ?_
  ·refine bB (FY r) ?_;dsimp only;by_cases o:(a.h1 b).1=0
   ·rw[aM (by show((gS (a.h1 b).1==0)==br)=br;grind [k1,aJ])];grind [aJ,bv]
   rw[aQ (by show((gS (a.h1 b).1==0)==br)=bp;grind [k1,aC])];refine bB D (bB (Lg G r (v.yP e ab ab ab) (q.yP e ab ab ab)) ?_);simp_all [akd,bv]
  rintro _ rfl;dsimp only;rw[cW];refine akH (λo=>?_) (λo=>?_)
  ·rw[ax o];grind [bv]
  rw[aw o];grind [bv]
 rintro _ rfl;by_cases s:(a.h1 b).1=0\/41*(a.h1 b).1<=64*a.av b b
 ·rw[ax s];refine bv.2 (.inr ⟨_,bo,.inr ⟨[d],bo,by grind,?_⟩⟩);simp_all [aw,ake,ax,List.map_singleton,a7.iU]
 rw[cw s];dsimp only;cases bx with
 |none=>
  exfalso;exact s (.inl (OI (U bo)).2)
 |some c=>
  obtain⟨a0,c1⟩:=T c bo;have u:a.rows[c]?=Y a.rows[c]:=bk a0;have cs:a.rows.getD c 0=a.rows[c]:=(by grind);have m:a.iU (b::B)=if a.rows[c]∉a.rows.take a.full then a.iU B else if¬a.fin a.rows[c] then bq else
   if 41*((a.h1 b).1*(a.h1 b).1)<=64*(a.av b b*(a.h1 a.rows[c]).1) then Y [b] else
   if 41*(a.h1 a.rows[c]).1<=64*a.av a.rows[c] a.rows[c] then Y [a.rows[c]] else Y [b,a.rows[c]]:=by
   simp_all [aw,ake,a7.iU]
  have E:a.rows[c]∈a.rows.take a.full↔c<a.full:=(by grind [amb,amQ]);generalize a.rows[c]=i at*;show ae (bif bu ((c:Z)>=(fL a).2.1) then _ else _) _;by_cases C:c<a.full
  rotate_left
  ·rw[aQ (aJ (show(c:Z)>=(fL a).2.1 by show(a.full:Z)<=(c:Z);omega))];exact bv.2 (.inl ⟨bo,m.trans (ax (mt E.1 C))⟩)
  rw[aM (aC (show¬(c:Z)>=(fL a).2.1 by show¬(a.full:Z)<=(c:Z);omega))];rw[aw (ake (E.2 C))] at m;refine bB (Nj J p u) ?_;by_cases j:a.fin i
  rotate_left
  ·rw[cw j];dsimp only;rw[aQ (by rfl)];exact bv.2 (.inr ⟨_,bo,.inl ⟨bo,m.trans (cc j)⟩⟩)
  rw[cc j];dsimp only;rw[aM (by rfl)];rw[cw (ake j)] at m;obtain⟨dg,a4,_,_⟩:=OL p F u j;refine bB a4 ?_;dsimp only;have w:=a.OK e j;have ad:=akf u;have H:=a.CL e (j i ad);have I:c8 (Y (a.h1 i).1):=λn g=>(by cases g;exact w.cJ e ab ab);have a3:c8 (Y (a.av i i)):=λn g=>(by cases g;exact H.cJ e ab ab);have ap:aj (a.rows.map λx=>az (Y (a.av x i))) (c:Z)=Y (az (Y (a.av i i))):=(by grind [iy]);obtain⟨y,_,_,ce,ao,O,K,L⟩:=cF.mul e v w ab ab ab;obtain⟨z,_,_,ci,Q,R,M,N⟩:=cF.mul e q q ab ab ab;cases ao;cases O;cases Q;cases R;rw[K] at y;rw[M] at z;refine bB D (bB (kl G I) (bB (kl r r) ?_));rw[K,M];refine bB (Lg (λn g=>by cases g;exact y.cJ e ab ab) (λn g=>by cases g;exact z.cJ e ab ab) (y.yP e ab ab ab) (z.yP e ab ab ab)) ?_;dsimp only;rw[cW];refine akH (λf=>?_) (λf=>?_)
  ·rw[PX N L] at f;refine bv.2 (.inr ⟨_,bo,.inr ⟨[d],bo,by grind,?_⟩⟩);grind
  rw[PX N L] at f;rw[cw f] at m;refine bB ap (bB (Lg a3 I (H.yP e ab ab ab) (w.yP e ab ab ab)) ?_);dsimp only;rw[cW];refine akH (λf=>?_) (λf=>?_)
  ·refine bv.2 (.inr ⟨_,bo,.inr ⟨[c],bo,by grind,?_⟩⟩);grind
  refine bv.2 (.inr ⟨_,bo,.inr ⟨[d,c],bo,by grind,?_⟩⟩);grind
def RE (b:c9 l) (a:c9 d) (c:c9 v):sT ([l,d,v],())=Y (az (kw [l,d,v]),()):=by unfold sT;refine af (y:=l) rfl (af (y:=v) rfl (af (Rw b c) (af (y:=d) rfl (af (y:=d) rfl (af (Rw a a) ?_)))));refine af (BD (na _ _) (na _ _)) rfl
def a7.oM (c:a7) (a b:X):c9 (c.gw a b):=wc _ _
theorem xY {x:a7} {i k I P:X} (c:x.rows[i]?=Y I) (d:x.rows[k]?=Y P):∃a,aj (fL x).2.2.1 (i:Z)=Y a/\aj a (k:Z)=Y (az (x.s I P)):=by
 refine⟨x.rows.map λb=>az (x.s I b),?_,?_⟩
 ·rw[iy];show(x.rows.map _)[i]?=_;grind
 grind [iy]
def afV {c:a7} (n:c.okd) {h:X} (e:c.rows[h]?=Y b) (g:c.rows[f]?=Y a) (i:hd) (l:i.2.1=[c.gw a a]):vi (i,fL c,[(f:Z)],(h:Z),())=Y ((c.lc [a]).map (· b),()):=by
 obtain⟨o,j,k⟩:=xY e g;have m:=n b (akf e) a (akf g);unfold vi;refine af j (af (y:=(f:Z)) rfl (af k ?_));rw[aQ (by rfl)];rw[l];refine af (y:=c.gw a a) rfl (af (XZ (c.oM a a)) ?_);dsimp only;rw[cW];show(if p9 (c.gw a a)=0 then _ else _)=Y ([if p9 (c.gw a a)=0 then 0 else oK (c.s b a) (bj (c.gw a a)) 0],());by_cases d:p9 (c.gw a a)=0
 ·rw[ax d,ax d]
 rw[aw d,aw d];exact af (y:=c.gw a a) rfl (af (jc (c.oM a a)) (af (Ku m (gj _)) rfl))
def afW {c:a7} (n:c.okd) {o g:X} (d:c.rows[o]?=Y f) (i:c.rows[g]?=Y a) (j:c.rows[s]?=Y b) (h:hd) (e:h.2.1=c.jk [a,b]):vi (h,fL c,[(g:Z),(s:Z)],(o:Z),())=Y ((c.lc [a,b]).map (· f),()):=by obtain⟨u,p,q⟩:=xY d i;obtain⟨v,r,t⟩:=xY d j;have l:=n f (jg d) a (jg i);have m:=n f (jg d) b (jg j);have e:h.2.1=[c.gw a a,c.gw b a,c.gw b b]:=e;unfold vi;refine af p (af (y:=(g:Z)) rfl (af q ?_));rw[aM (by rfl)];rw[e];refine af r (af (y:=(s:Z)) rfl (af t ?_));refine af (y:=c.gw a a) rfl (af (jc (c.oM _ _)) (af (y:=c.gw b a) rfl (af (jc (c.oM _ _)) (af (y:=c.gw b b) rfl (af (jc (c.oM _ _)) ?_)))));refine af (kl l (gj _)) (af (kl m (gj _)) (af (BD (na _ _) (na _ _)) ?_));refine af (kl m (gj _)) (af (kl l (gj _)) (af (BD (na _ _) (na _ _)) ?_));have k:=RE (c.oM a a) (c.oM b a) (c.oM b b);refine af k (af (Ku (og _ _) (og _ _)) (af k (af (Ku (og _ _) (og _ _)) rfl)))
def W8 {e:hd} (h:ak e.1=1) (m:e.2.2.2.1=[c]) (k:e.2.1=[v]) (i:c[a]?=Y d) (j:c[b]?=Y l) (n:c9 d) (o:c9 l) (p:c9 v):vh (e,(a:Z),(b:Z),())=Y (az (nf d v l),()):=by have f:aj c (a:Z)=Y d:=(by rw[iy,i]);have g:aj c (b:Z)=Y l:=(by rw[iy,j]);unfold vh;dsimp only;rw[m,k,h];refine af (y:=c) rfl (af f (af (jc n) (af (y:=c) rfl (af g (af (jc o) (af (y:=v) rfl (af (jc p) (af (kl (gj _) (gj _)) (af (kl (na _ _) (gj _)) ?_)))))))));rw[aM (by rfl)];rfl
def W9 {h:hd} {i f j g:Z} (q:ak h.1=2) (x:h.2.2.2.1=[c,n]) (u:h.2.1=[i,f,j]) (r:c[a]?=Y d) (s:c[b]?=Y l) (t:n[a]?=Y v) (w:n[b]?=Y g) (A:c9 d) (B:c9 l) (C:c9 v) (G:c9 g) (D:c9 i) (E:c9 f) (F:c9 j):vh (h,(a:Z),(b:Z),())=Y (az (gO (gO (gO (nf d i l) (nf d f g)) (nf v f l)) (nf v j g)),()):=by have k:aj c (a:Z)=Y d:=(by rw[iy,r]);have m:aj c (b:Z)=Y l:=(by rw[iy,s]);have o:aj n (a:Z)=Y v:=(by rw[iy,t]);have p:aj n (b:Z)=Y g:=(by rw[iy,w]);have e:=λ(z h:ajU)=>na z h;unfold vh;dsimp only;rw[x,u,q];refine af (y:=c) rfl (af k (af (jc A) (af (y:=c) rfl (af m (af (jc B) (af (y:=i) rfl (af (jc D) (af (kl (gj _) (gj _)) (af (kl (e _ _) (gj _)) ?_)))))))));rw[aQ (by rfl)];refine af (y:=((br,((br,(([]:aj0),())),((0:Z),()))),az (gO (gO (gO (nf d i l) (nf d f g)) (nf v f l)) (nf v j g)),())) ?_ bo;refine af (y:=n) rfl (af o (af (jc C) (af (y:=n) rfl (af p (af (jc G) (af (y:=f) rfl (af (jc E) (af (y:=j) rfl (af (jc F) ?_)))))))));refine af (kl (gj _) (gj _)) (af (kl (e _ _) (gj _)) (af (BB (e _ _) (e _ _)) ?_));refine af (kl (gj _) (gj _)) (af (kl (e _ _) (gj _)) (af (BB (og _ _) (e _ _)) ?_));refine af (kl (gj _) (gj _)) (af (kl (e _ _) (gj _)) (af (BB (og _ _) (e _ _)) rfl))
theorem Br {l:ajZ} (o:l.length<=1000) (a:X):∃e:Z,q4 (cO l,(a:Z),())=Y (e,())/\(a∈l->∃b:X,e=b/\l[b]?=Y a)/\(a∉l->e=-1):=by
 suffices h:ae (q4 (cO l,(a:Z),())) λd=>(a∈l->∃b:X,d.1=b/\l[b]?=Y a)/\(a∉l->d.1=-1) by obtain⟨⟨e,_⟩,k,m⟩:=h;grind
 have ao:ak (cO l)=(l.length:Z):=(by rw[a5,hV]);unfold q4;refine bF (P:=λd=>(d=.inl ()/\a∉l)\/∃b:X,d=.inr ((b:Z),())/\l[b]?=Y a) ?_ ?_
 ·refine bQ l.length (λc i=>i=((c:Z),())/\a∉l.take c) ⟨bo,ac⟩ ?_ ?_
  ·rintro c _ n ⟨rfl,f⟩;dsimp only;rw[ao,aQ (aJ (aa:(c:Z)<(l.length:Z))),ba aa];refine bB (y:=(l[c]:Z)) ?_ ?_
   ·rw[iy];show(l.map λ(j:X)=>(j:Z))[c]?=_;grind
   rw[gh,cW];refine akH (λg=>?_) (λg=>?_)
   ·grind [b0,bv]
   grind [bv,aj5,b0,cB]
  rintro _ ⟨rfl,f⟩;dsimp only;rw[cy] at f;rw[ao,aM (aC (aa:¬(l.length:Z)<(l.length:Z)))];grind [bv]
 grind [bv,akf]
def fU (d:a7) (c:ajZ) (b:X):ajZ:=((bL b).filter λa=>bu (a∉c)).map λa=>d.rows.getD a 0
theorem KP (b:a7) (c:a∈e):fU b e (a+1)=fU b e a:=by grind [akp,fU]
theorem KQ (b:a7) (c:a∉e):fU b e (a+1)=fU b e a++[b.rows.getD a 0]:=by grind [akp,fU]
theorem F9 (c:a7) (b:ajZ) (a:X):(fU c b a).length<=a:=by grind [cu,aku,b9,fU]
def kE (a:a7) (b:ajZ) (c:X):db:=(cO (fU a b c),au ((a.full:Z)-(b.length:Z)),(fU a b c).map (λd=>(fU a b a.rows.length).map λe=>az (a.s d e)),())
theorem af5 {a:a7} (C:a.rows.length<=1000) (l:e.length<=1000):Ej (fL a,cO e,())=Y (kE a e a.rows.length,()):=by
 have ao:ak (fL a).1=(a.rows.length:Z):=(by rw[a5];exact b4 _ (hV _));have m:ak (cO e)=(e.length:Z):=(by rw[a5,hV]);have q:∀b,b<a.rows.length->aj (fL a).1 (b:Z)=Y ((a.rows.getD b 0:X):Z):=λb j=>(by rw[iy];show(a.rows.map λ(a:X)=>(a:Z))[b]?=_;grind);unfold Ej;refine bN.1 ?_;dsimp only;rw[m];refine bF (P:=λf=>∃c,f=(c,kE a e a.rows.length,())) ?_ (by grind [bv]);refine bQ a.rows.length (λb f=>∃c,f=((b:Z),c,kE a e b,())) ⟨_,bo⟩ ?_ ?_
 rotate_left
 ·rintro _ ⟨c,rfl⟩;dsimp only;rw[ao,aM (aC (aa:¬(a.rows.length:Z)<(a.rows.length:Z)))];grind [bv]
 rintro b _ j ⟨c,rfl⟩;dsimp only;rw[ao,aQ (aJ (aa:(b:Z)<(a.rows.length:Z))),ba aa];refine bF (P:=λf=>∃c,f=(c,kE a e (b+1),())) ?_ (by grind [bv]);obtain⟨y,o,p,A⟩:=Br l b;refine bB o ?_;dsimp only;have D:=F9 a e b;by_cases h:b∈e
 ·obtain⟨d,rfl,_⟩:=p h;rw[aQ (aJ (aa:(d:Z)>=0))];grind [KP,bv,kE]
 rw[aM (aC (show¬y>=0 by grind))];refine bB (q b j) ?_;have E:(cO (fU a e b)).length=(fU a e b).length:=hV _;rw[eC (by show(cO (fU a e b)).length+1<=_;omega),aI];refine bF (P:=λf=>∃c,f=(c,((kE a e b).1++[((a.rows.getD b 0:X):Z)],(kE a e b).2),(fU a e a.rows.length).map (λg=>az (a.s (a.rows.getD b 0) g)),())) ?_ ?_
 ·refine bQ a.rows.length (λd f=>∃c,f=((d:Z),c,((kE a e b).1++[((a.rows.getD b 0:X):Z)],(kE a e b).2),(fU a e d).map (λg=>az (a.s (a.rows.getD b 0) g)),())) ⟨c,bo⟩ ?_ ?_
  ·rintro d _ B ⟨c,rfl⟩;dsimp only;rw[aQ (aJ (aa:(d:Z)<(a.rows.length:Z))),ba aa];refine bF (P:=λf=>∃c,f=(c,((kE a e b).1++[((a.rows.getD b 0:X):Z)],(kE a e b).2),(fU a e (d+1)).map (λg=>az (a.s (a.rows.getD b 0) g)),())) ?_ (by grind [bv]);obtain⟨z,r,t,G⟩:=Br l d;refine bB r ?_;dsimp only;by_cases n:d∈e
   ·obtain⟨u,rfl,_⟩:=t n;rw[aM (aC (aa:¬(u:Z)<0))];grind [KP,bv]
   rw[aQ (aJ (show z<0 by grind))];obtain⟨H,v,w⟩:=xY (x:=a) (i:=b) (k:=d) (I:=a.rows.getD b 0) (P:=a.rows.getD d 0) (by grind) (by grind);have:=F9 a e d;refine bB v (bB w ?_);rw[eC (by grind),aI];grind [KQ,bv]
  rintro _ ⟨c,rfl⟩;dsimp only;rw[aM (aC (aa:¬(a.rows.length:Z)<(a.rows.length:Z)))];grind [bv]
 rintro _ ⟨c,rfl⟩;dsimp only;have F:(kE a e b).2.2.1.length=(fU a e b).length:=b9 ..;rw[eC (by grind),bM];refine bv.2 ⟨c,?_⟩;unfold kE;rw[KQ a h,yw,alJ];rfl
structure mu (x:a7) (l P:ajZ):Prop where
 gk:(∃k a,l=[k]/\P=[a]/\x.rows[k]?=Y a)\/∃k j a b,l=[k,j]/\P=[a,b]/\x.rows[k]?=Y a/\x.rows[j]?=Y b
theorem mu.len {a:a7} (c:mu a e p):e.length=p.length/\e.length<=2/\0<e.length/\(a.lc p).length=e.length:=by rcases c.gk with⟨d,b,rfl,rfl,_⟩|⟨d,g,b,f,rfl,rfl,_⟩<;>exact⟨bo,ac,ac,bo⟩
theorem mu.get {d:a7} (f:mu d e p) (j:a<e.length):∃c b,e[a]?=Y c/\p[a]?=Y b/\d.rows[c]?=Y b:=by
 rcases f.gk with⟨c,b,rfl,rfl,g⟩|⟨c,k,b,h,rfl,rfl,g,i⟩
 ·grind
 grind
def mu.B2 {c:a7} (k:mu c p e) (i:c.okd) (g:c.rows[b]?=Y a) (d:hd) (h:d.2.1=c.jk e):vi (d,fL c,cO p,(b:Z),())=Y ((c.lc e).map (· a),()):=by
 rcases k.gk with⟨m,j,rfl,rfl,f⟩|⟨m,o,j,n,rfl,rfl,f,l⟩
 ·exact afV i g f d h
 exact afW i g f l d h
theorem Pf (e:a7) (d:ajZ):∀c∈e.lc d,∀b,c9 (c b):=by
 intro c a b;unfold a7.lc at a;split at a
 ·obtain rfl:=cB.1 a;dsimp only;split
  ·exact⟨ab,ab⟩
  exact Bv 0
 ·simp only[fG,amc,or_false] at a;rcases a with rfl|rfl
  ·exact Bv 0
  exact Bv 0
 grind
def hH (a:a7) (e b:ajZ) (d:X):eA:=(a.lc b).map λc=>(fU a e d).map c
theorem mu.form {a:a7} (j:mu a e p) {q:hd} (f:ak q.1=(e.length:Z)) (h:q.2.2.2.1=hH a e p a.rows.length) (g:q.2.1=a.jk p) {i m I M:X} (r:(fU a e a.rows.length)[i]?=Y I) (s:(fU a e a.rows.length)[m]?=Y M):vh (q,(i:Z),(m:Z),())=Y (az (rm (a.jk p) (a.lc p) I M),()):=by
 have d:=Pf a p;have c:∀b:X->Z,((fU a e a.rows.length).map b)[i]?=Y (b I)/\((fU a e a.rows.length).map b)[m]?=Y (b M):=λb=>⟨by grind,by grind⟩;rcases j.gk with⟨l,b,rfl,rfl,k⟩|⟨l,t,b,n,rfl,rfl,k,o⟩
 ·exact W8 f h g (c _).1 (c _).2 (d _ (fg.2 bo) I) (d _ (fg.2 bo) M) (a.oM _ _)
 exact W9 f h g (c _).1 (c _).2 (c _).1 (c _).2 (d _ (mr ..) I) (d _ (mr ..) M) (d _ (g3 _ (fg.2 bo)) I) (d _ (g3 _ (fg.2 bo)) M) (a.oM _ _) (a.oM _ _) (a.oM _ _)
theorem aeA {b a:bn g} (h:b.length=a.length) {k:X} (f:k<a.length) {c:g} (i:b[k]?=Y c):(b.take k++a.drop k).set k c=b.take (k+1)++a.drop (k+1):=by have d:(b.take k).length=k:=(by grind);have e:a.drop k=a[k]::a.drop (k+1):=wI f;rw[List.set_append,aw aa,d,ur,e];grind [aj5,akZ]
theorem Y8 {b a:bn g} (c:b.length=a.length) {k:X} (d:k<a.length):(b.take k++a.drop k)[k]?=Y a[k]:=by grind
theorem Ym (b:a7) (a:ajZ):(b.lc a).length<=2:=by unfold a7.lc;grind
theorem WW {b:a7} (ap:a<b.rows.length) (av:b.rows.length<=1000) (am:a∉p) {t:db} {u:hd} {v:db} {o q s:aG}:ae (loop (σ:=qM) (ρ:=(nt⊕(nt⊕(qM⊕(nt⊕(db×hd×bA×bt)))))) (λ(h,D,E,w,d,_)=>
 bif bu (h<ak ((b.lc e).map (· (b.rows.getD a 0)))) then
 (aj ((b.lc e).map (· (b.rows.getD a 0))) h).bind λR=>
 (o8 (R,())).bind λ(N,_)=>
  bif !N then
 Y (.inr (.inr (.inr (.inr (.inr (w,d,br,())))))) else
 (bf (d.2.2.2.1).length h).bind λC=>
 (aj ((b.lc e).map (· (b.rows.getD a 0))) h).bind λF=>
 (a8 d.2.2.2.1 C λG=>Y G).bind λO=>
 (bh (O.length+([F]).length)).bind λ_=>
 (bf (d.2.2.2.1).length h).bind λm=>
  bif bI C m&&bp then
 (a8 d.2.2.2.1 m λH=>Y H).bind λP=>
 (((((a8 d.2.2.2.1 m λ_=>Y ((d.2.2.2.1).set m (P++[F]))).map λS=>(S,d.2.2.2.2)).map λT=>(d.2.2.1,T)).map λU=>(d.2.1,U)).map λV=>(d.1,V)).bind λad=>
 Y (.inl (aH h,D,E,w,ad,())) else bq else
 Y (.inr (.inl (D,E,w,d,())))) (0,t,u,v,(o,q,s,hH b p e a,()),())) λj=>
  ((∀g∈b.lc e,cS (g (b.rows.getD a 0))≠2047)/\j=.inl (t,u,v,(o,q,s,hH b p e (a+1),()),()))\/((∃g∈b.lc e,cS (g (b.rows.getD a 0))=2047)/\∃Q M,j=.inr (.inr (.inr (.inr (Q,M,br,()))))):=by
 have a0:=Ym b e;generalize an:b.rows.getD a 0=f;have a4:hH b p e (a+1)=(b.lc e).map λg=>(fU b p a).map g++[g f]:=(by grind [akt,KQ,hH]);have A:(hH b p e (a+1)).length=(hH b p e a).length:=(by grind [b9,hH]);have a1:(hH b p e a).length=(b.lc e).length:=(by grind);refine bQ (b.lc e).length (λc j=>j=((c:Z),t,u,v,(o,q,s,(hH b p e (a+1)).take c++(hH b p e a).drop c,()),())/\∀g∈(b.lc e).take c,cS (g f)≠2047) ⟨ac,ac⟩ ?_ ?_
 ·rintro c _ z ⟨rfl,I⟩;dsimp only;rw[aQ (aJ (show(c:Z)<ak ((b.lc e).map (· f)) by grind))];have x:aj ((b.lc e).map (· f)) (c:Z)=Y ((b.lc e)[c] f):=by
   grind [iy,b0]
  have J:=b5 z;refine bB x (bB (wa (Pf b e _ J f)) ?_);dsimp only;by_cases j:cS ((b.lc e)[c] f)=2047
  ·rw[aQ (by grind)];grind [bv]
  rw[aM (by grind)];have a3:((hH b p e (a+1)).take c++(hH b p e a).drop c).length=(b.lc e).length:=(by grind);have r:=Y8 A (k:=c) aa;have B:(hH b p e a)[c]'(by omega)=(fU b p a).map (b.lc e)[c]:=by grind [hH]
  have y:=fB (n:=((hH b p e (a+1)).take c++(hH b p e a).drop c).length) (i:=c) aa;have bl:=F9 b p a;refine bB y (bB x ?_);rw[ir r,aI,B];rw[eC (by grind),aI];refine bB y ?_;rw[aQ ac,ir r,aI,B,ir r];have L:(hH b p e (a+1))[c]?=Y ((fU b p a).map (b.lc e)[c]++[(b.lc e)[c] f]):=(by grind);have K:=aeA A (k:=c) aa L;rw[K,ba aa];refine bv.2 ⟨bo,λg l=>?_⟩;rw[iG,bk z] at l;rcases ha.1 l with l|l
  ·grind
  simp_all
 rintro _ ⟨rfl,I⟩;dsimp only;rw[aM (aC (show¬((b.lc e).length:Z)<ak ((b.lc e).map (· f)) by grind))];grind [ck,anS,bv,cy]
def lx (d:a7) (e a:ajZ) (f g:X):bn (bn ik):=aF a.length λb=>aF a.length λc=>
 if b<f\/(b=f/\c<g) then az (gO (d.s (a.getD b 0) (a.getD c 0)) (jo (rm (d.jk e) (d.lc e) (a.getD b 0) (a.getD c 0)))) else az (d.s (a.getD b 0) (a.getD c 0))
theorem Fh (a:ajZ) (b:X->g):a.map b=aF a.length λc=>b (a.getD c 0):=by grind [b0,jX,b9,List.ext_getElem,cN]
theorem afK (d:a7) (e a:ajZ):lx d e a 0 0=a.map λb=>a.map λc=>az (d.s b c):=by unfold lx;rw[Fh a (λb=>a.map λc=>az (d.s b c))];simp_all [aw,eD,Fh]
theorem afI (d:a7) (b a:ajZ) (c:X):lx d b a c a.length=lx d b a (c+1) 0:=by unfold lx;refine eD λg e=>eD λh f=>?_;grind
theorem afH (a:a7) (c b:ajZ):lx a c b b.length 0=b.map λd=>b.map λe=>az (gO (a.s d e) (jo (rm (a.jk c) (a.lc c) d e))):=by unfold lx;rw[Fh b (λd=>b.map λe=>az (gO (a.s d e) (jo (rm (a.jk c) (a.lc c) d e))))];refine eD λg f=>?_;simp_all [ax,eD,Fh]
theorem afJ (d:a7) (e c:ajZ) (i:a<c.length) (j:b<c.length):∃f,(lx d e c a b)[a]?=Y f/\f.length=c.length/\f[b]?=Y (az (d.s (c.getD a 0) (c.getD b 0)))/\(lx d e c a b).set a (f.set b (az (gO (d.s (c.getD a 0) (c.getD b 0)) (jo (rm (d.jk e) (d.lc e) (c.getD a 0) (c.getD b 0))))))=lx d e c a (b+1):=by
 refine⟨_,j9 i,cN _ _,?_,?_⟩
 ·rw[j9 j,aw aa]
 unfold lx;rw[hI,hI];refine eD λk m=>?_;by_cases g:k=a
 ·subst g;rw[g9];refine eD λl n=>?_;by_cases h:l=b
  ·simp_all [g9,ax]
  rw[hL _ _ h];grind
 simp_all [hL,eD,ax,aw]
def Ik (a:a7) (b c:ajZ):db×hd×bA×bt:=
 ((
  cO (fU a b a.rows.length),au ((a.full:Z)-(b.length:Z)),(fU a b a.rows.length).map (λd=>(fU a b a.rows.length).map λe=>az (gO (a.s d e) (jo (rm (a.jk c) (a.lc c) d e)))),()),
  (cO c,a.jk c,cO (fU a b a.rows.length),hH a b c a.rows.length,()),bp,())
theorem adX {a:a7} (N:a.okd) (an:a.rows.length<=1000) (w:mu a e p):ae (xS (fL a,cO e,())) λE=>
  (((∀c∈a.lc p,∀i,i<a.rows.length->i∉e->cS (c (a.rows.getD i 0))≠2047)/\E=Ik a e p)\/((∃c∈a.lc p,∃i,i<a.rows.length/\i∉e/\cS (c (a.rows.getD i 0))=2047)/\E.2.2.1=br)):=by
 obtain⟨fn,ex,cs,cv⟩:=w.len;have ao:ak (fL a).1=(a.rows.length:Z):=(by rw[a5];exact b4 _ (hV _));have F:ak (cO e)=(e.length:Z):=(by rw[a5,hV]);have c2:∀d c:X,a.rows[d]?=Y c->aj (fL a).1 (d:Z)=Y (c:Z):=λd c k=>(by rw[iy];show(a.rows.map λ(a:X)=>(a:Z))[d]?=_;grind);have t:∀j d:X,e[j]?=Y d->aj (cO e) (j:Z)=Y (d:Z):=λj d co=>(by rw[iy];show(e.map λ(a:X)=>(a:Z))[j]?=_;grind);unfold xS;refine bB (af5 an aa) ?_;dsimp only;have fp:=F9 a e a.rows.length;refine bF (P:=λq=>∃o r,q=(o,r,kE a e a.rows.length,(cO p,([]:aG),cO (fU a e a.rows.length),bJ e.length ([]:aG),()),())) ?_ ?_
 ·refine bQ e.length (λj q=>∃o r,q=((j:Z),o,r,kE a e a.rows.length,(cO (p.take j),([]:aG),cO (fU a e a.rows.length),bJ j ([]:aG),()),())) ⟨_,_,bo⟩ ?_ ?_
  ·rintro j _ dg ⟨o,r,rfl⟩;dsimp only;obtain⟨d,c,ay,av,u⟩:=w.get dg;rw[F,aQ (aJ (aa:(j:Z)<(e.length:Z))),ba aa];refine bB (t j d ay) (bB (c2 d c u) ?_);rw[eC (by grind [hV]),bM,eC (by grind),bM];refine bv.2 ⟨o,r,?_⟩;rw[aj5,av];simp only[yw,Option.toList];rw[show bJ (j+1) ([]:aG)=bJ j []++[[]] from List.replicate_succ'];rfl
  rintro _ ⟨o,r,rfl⟩;dsimp only;rw[F,aM (aC (aa:¬(e.length:Z)<(e.length:Z))),ck aa];grind [bv]
 rintro _ ⟨o,r,rfl⟩;dsimp only;obtain⟨z,ek,ay,av,u⟩:=w.get cs;have K:∀{d f c C:X},a.rows[d]?=Y c->a.rows[f]?=Y C->∃v,aj (fL a).2.2.1 (d:Z)=Y v/\aj v (f:Z)=Y (az (a.s c C))/\c8 (a.s c C):=λk x=>(by obtain⟨v,O,Q⟩:=xY k x;exact⟨v,O,Q,N _ (akf k) _ (akf x)⟩);obtain⟨v,O,Q,ds⟩:=K u u;refine bB (t 0 z ay) (bB O (bB (t 0 z ay) (bB Q (bB (F8 ds) ?_))));dsimp only;refine bF (P:=λq=>q=(o,r,kE a e a.rows.length,(cO p,a.jk p,cO (fU a e a.rows.length),hH a e p 0,()),())) ?_ ?_
 ·have a3:bJ e.length ([]:aG)=hH a e p 0:=by
   unfold hH fU;rw[<-cv];exact ao8.symm
  rw[a3,F];rcases w.gk with⟨d,c,rfl,rfl,y⟩|⟨d,f,c,C,rfl,rfl,y,H⟩
  ·rw[aM (by rfl)];have:z=d:=(gb ay).symm;subst this;rw[u] at y;cases y;exact bv.2 bo
  have:z=d:=(gb ay).symm;subst this;rw[u] at y;cases y;obtain⟨fs,d0,d1,d2⟩:=K H u;obtain⟨ft,d3,d4,d5⟩:=K H H;rw[aQ (by rfl)];refine bB (t 1 f bo) (bB d0 (bB (t 0 z bo) (bB d1 (bB (F8 d2) (bB (t 1 f bo) (bB d3 (bB (t 1 f bo) (bB d4 (bB (F8 d5) ?_)))))))));rw[eC ac,aI];exact bv.2 bo
 rintro _ rfl;dsimp only;refine bF (P:=λq=>((∀c∈a.lc p,∀i,i<a.rows.length->i∉e->cS (c (a.rows.getD i 0))≠2047)/\q=.inl (o,r,kE a e a.rows.length,(cO p,a.jk p,cO (fU a e a.rows.length),hH a e p a.rows.length,()),()))\/((∃c∈a.lc p,∃i,i<a.rows.length/\i∉e/\cS (c (a.rows.getD i 0))=2047)/\∃B A,q=.inr (B,A,br,()))) ?_ ?_
 ·refine bQ a.rows.length (λi q=>q=((i:Z),o,r,kE a e a.rows.length,(cO p,a.jk p,cO (fU a e a.rows.length),hH a e p i,()),())/\∀c∈a.lc p,∀f,f<i->f∉e->cS (c (a.rows.getD f 0))≠2047) ⟨bo,λc k f ci=>absurd ci aa⟩ ?_ ?_
  ·rintro i _ D ⟨rfl,a4⟩;dsimp only;rw[ao,aQ (aJ (aa:(i:Z)<(a.rows.length:Z))),ba aa];obtain⟨E,d6,d7,fr⟩:=Br (l:=e) aa i;refine bF (P:=λq=>(q=.inl (o,r,kE a e a.rows.length,(cO p,a.jk p,cO (fU a e a.rows.length),hH a e p (i+1),()),())/\∀c∈a.lc p,∀f,f<i+1->f∉e->cS (c (a.rows.getD f 0))≠2047)\/((∃c∈a.lc p,∃i,i<a.rows.length/\i∉e/\cS (c (a.rows.getD i 0))=2047)/\∃B A,q=.inr (.inr (.inr (B,A,br,()))))) ?_ ?_
   ·refine bB d6 ?_;dsimp only;by_cases G:i∈e
    ·obtain⟨f,rfl,_⟩:=d7 G;rw[aQ (aJ (aa:(f:Z)>=0))];refine bv.2 (.inl ⟨?_,λc k m L ap=>?_⟩)
     ·simp_all [KP,hH]
     grind
    rw[aM (aC (show¬E>=0 by grind))];have J:a.rows[i]?=Y (a.rows.getD i 0):=(by simp_all);refine bB (w.B2 N J _ rfl) ?_;dsimp only;refine bF (WW D an G) ?_;rintro _ (⟨bl,rfl⟩|⟨⟨c,k,x⟩,d9,d8,rfl⟩)
    ·refine bv.2 (.inl ⟨bo,λc k m L ap=>?_⟩);grind
    exact bv.2 (.inr ⟨⟨c,k,i,D,G,x⟩,d9,d8,bo⟩)
   rintro _ (⟨rfl,eq⟩|⟨x,B,A,rfl⟩)
   ·grind [bv]
   grind [bv]
  rintro _ ⟨rfl,a4⟩;dsimp only;rw[ao,aM (aC (aa:¬(a.rows.length:Z)<(a.rows.length:Z)))];grind [bv]
 rintro _ (⟨bl,rfl⟩|⟨x,B,A,rfl⟩)
 rotate_left
 ·grind [bv]
 dsimp only;have a1:kE a e a.rows.length=(cO (fU a e a.rows.length),au ((a.full:Z)-(e.length:Z)),lx a p (fU a e a.rows.length) 0 0,()):=(by rw[afK];rfl);have ce:=λi m I M J a0=>w.form (q:=(cO p,a.jk p,cO (fU a e a.rows.length),hH a e p a.rows.length,())) (i:=i) (m:=m) (I:=I) (M:=M) (by grind [hV,a5]) rfl rfl J a0;have V:∀c∈fU a e a.rows.length,c∈a.rows:=λc k=>(by unfold fU at k;obtain⟨d,co,rfl⟩:=apg.1 k;simp_all);rw[a1];generalize em:fU a e a.rows.length=b at*;refine bF (P:=λq=>∃g h,q=(g,h,(cO b,au ((a.full:Z)-(e.length:Z)),lx a p b b.length 0,()),(cO p,a.jk p,cO b,hH a e p a.rows.length,()),())) ?_ ?_
 rotate_left
 ·rintro _ ⟨g,h,rfl⟩;simp_all [afH,bv,Ik]
 have el:∀S:Z×bn (bn ik)×bt,ak ((cO b,S):db).1=(b.length:Z):=λS=>(by grind [a5,hV]);refine bQ b.length (λi q=>∃g h,q=((i:Z),g,h,(cO b,au ((a.full:Z)-(e.length:Z)),lx a p b i 0,()),(cO p,a.jk p,cO b,hH a e p a.rows.length,()),())) ⟨_,_,bo⟩ ?_ ?_
 rotate_left
 ·rintro _ ⟨g,h,rfl⟩;dsimp only;rw[a5,hV,aM (aC (aa:¬(b.length:Z)<(b.length:Z)))];grind [bv]
 rintro i _ D ⟨g,h,rfl⟩;dsimp only;rw[a5,hV,aQ (aJ (aa:(i:Z)<(b.length:Z))),ba aa];refine bF (P:=λq=>∃g h,q=(g,h,(cO b,au ((a.full:Z)-(e.length:Z)),lx a p b i b.length,()),(cO p,a.jk p,cO b,hH a e p a.rows.length,()),())) ?_ ?_
 rotate_left
 ·rintro _ ⟨g,h,rfl⟩;refine bv.2 ⟨g,h,?_⟩;rw[afI]
 refine bQ b.length (λm q=>∃g h,q=((m:Z),g,h,(cO b,au ((a.full:Z)-(e.length:Z)),lx a p b i m,()),(cO p,a.jk p,cO b,hH a e p a.rows.length,()),())) ⟨_,_,bo⟩ ?_ ?_
 rotate_left
 ·rintro _ ⟨g,h,rfl⟩;dsimp only;rw[aM (aC (show¬(b.length:Z)<ak (cO b) by simp_all))];grind [bv]
 rintro m _ L ⟨g,h,rfl⟩;dsimp only;rw[aQ (aJ (show(m:Z)<ak (cO b) by simp_all)),ba aa];obtain⟨v,R,fT,eS,f0⟩:=afJ a p b D L;have ap:(lx a p b i m).length=b.length:=cN _ _;have T:b[i]?=Y (b.getD i 0):=(by simp_all);have U:b[m]?=Y (b.getD m 0):=(by simp_all);have ad:=fB (n:=(lx a p b i m).length) (i:=i) aa;have am:=fB (n:=v.length) (i:=m) aa;have c1:c8 (a.s (b.getD i 0) (b.getD m 0)):=N _ (V _ (akf T)) _ (V _ (akf U));have bx:c8 (rm (a.jk p) (a.lc p) (b.getD i 0) (b.getD m 0)):=by
  unfold rm;split
  ·exact na _ _
  ·exact og _ _
  intro fz dl;cases dl;exact c5 _
 refine bB ad (bB ad ?_);rw[ir R,aI];refine bB am ?_;rw[ir R,ir eS,aI];refine bB (ce i m _ _ T U) ?_;refine bB (BD c1 bx) ?_;refine bB am ?_;rw[ir R,ir eS];refine bv.2 ⟨g,h,?_⟩;grind
def jm (a:aR):hd:=(cO a.aP,a.d,cO a.rows,a.l.map (λb=>a.rows.map b),())
theorem aeg (a:ajZ):a=(bL a.length).map λb=>a.getD b 0:=by refine wJ ac λe c d=>?_;grind
theorem mu.mem {b:a7} (f:mu b p e) (m:b.rows.Nodup) (l:a<b.rows.length):b.rows.getD a 0∈e↔a∈p:=by
 have h:b.rows.getD a 0=b.rows[a]:=(by grind);have o:∀{d c:X},b.rows[d]?=Y c->(b.rows[a]=c↔a=d):=λ{d c} k=>(by grind [amb,ak2]);rw[h];rcases f.gk with⟨d,c,rfl,rfl,g⟩|⟨d,n,c,i,rfl,rfl,g,j⟩
 ·grind
 grind
def mu.rest {a:a7} (d:mu a p e) (f:a.rows.Nodup):fU a p a.rows.length=a.rows.filter λg=>bu (g∉e):=by
 conv=>rhs;rw[aeg a.rows]
 unfold fU;rw[List.filter_map];congr 1;refine qz λc b=>?_;have b:=jJ.1 b;show bu (c∉p)=bu (a.rows.getD c 0∉e);rw[akd,d.mem f b]
theorem adW {a:a7} (w:a.okd) (s:a.rows.length<=1000) (k:a.rows.Nodup) (f:mu a p e) (y:a.full<=a.rows.length) (z:p.length<=a.full):ae (xS (fL a,cO p,())) λm=>((a.hu e).fin/\m=(fL (a.elim e),jm (a.hu e),bp,()))\/(¬(a.hu e).fin/\m.2.2.1=br):=by
 have t:=f.rest k;have q:(a.hu e).fin↔∀c∈a.lc e,∀b,b<a.rows.length->b∉p->cS (c (a.rows.getD b 0))≠2047:=by
  constructor
  ·intro j c h b d n;refine j c h _ (iF.2 ⟨?_,aj8 (mt (f.mem k d).1 n)⟩);grind
  intro j c h b d;have d:b∈a.rows.filter λb=>bu (b∉e):=d;obtain⟨i,g⟩:=iF.1 d;obtain⟨l,o,rfl⟩:=hG.1 i;have r:a.rows.getD l 0=a.rows[l]:=(by grind);have g:=alz g;rw[<-r] at g|-;exact j c h l o (mt (f.mem k o).2 g)
 refine(adX w s f).mono λm u=>?_;rcases u with⟨i,rfl⟩|⟨⟨c,h,b,d,n,x⟩,g⟩
 ·refine .inl ⟨q.2 i,?_⟩;have v:au ((a.full:Z)-(p.length:Z))=((a.full-e.length:X):Z):=by
   have:=f.len.1;grind [cD]
  unfold Ik;rw[v];unfold hH;rw[t];rfl
 grind
def Jh (a b:X->Rat):X->Rat
 |0=>0
 |n+1=>Jh a b n+a n*b n
def nj (c:X) (b:ajZ):ajZ:=b.filter λa=>bu (a≠c)
def Y3:a∈nj b e↔a∈e/\a≠b:=by simp[nj]
def Zv (b:e.Nodup):(nj a e).Nodup:=b.sublist Cn
def af6 (c:a∉e):nj a e=e:=mU.2 λf d=>aj8 λb=>c (b▸d)
def Tl {b:X}:∀{a:ajZ},a.Nodup->b∈a->(nj b a).length+1=a.length
 |[],_,d=>by simp at d
 |i::a,e,d=>by
  rw[kp] at e;by_cases c:i=b
  ·subst c;have:nj i (i::a)=nj i a:=(by simp[nj]);rw[this,af6 e.1,jf]
  have:nj b (i::a)=i::nj b a:=(by simp[nj,c]);rw[this,jf,jf,Tl e.2 (by simpa[Ne.symm c] using d)]
theorem OH {e:X->Z} {b:X}:∀{d:ajZ} {a:Z×ajV},a.2≠Y b->(fS e b d a).2≠Y b
 |[],_,c=>c
 |i::d,a,c=>by rw[fS];refine OH ?_;grind
def tY (c b:ajZ):Prop:=b=[]\/(∃a,b=[a]/\a∈c)\/∃a d,b=[a,d]/\a∈c/\d∈c/\a≠d
theorem Ht {c:a7}:∀{g d:ajZ},(∀p∈g,p∈c.rows.take c.full)->c.iU g=Y d->tY (c.rows.take c.full) d
 |[],d,_,b=>by rw[a7.iU] at b;cases b;exact .inl bo
 |p::g,d,h,b=>by
  have f:=h p ac;rw[a7.iU] at b;split at b
  ·cases b
  split at b
  ·cases b;exact .inr (.inl ⟨p,bo,f⟩)
  split at b
  ·cases b;exact .inr (.inl ⟨p,bo,f⟩)
  rename_i i k;split at b
  ·exact Ht (λl m=>h l (by grind)) b
  rename_i e;have e:=Classical.not_not.1 e;split at b
  ·cases b
  split at b
  ·cases b;exact .inr (.inl ⟨p,bo,f⟩)
  split at b
  ·cases b;exact .inr (.inl ⟨i,bo,e⟩)
  cases b;refine .inr (.inr ⟨p,i,bo,f,e,λj=>?_⟩);subst j;exact OH (a:=(0,bq)) ac k
theorem afu (c:b∈e) (d:f∈e) (h:b≠f):2<=e.length:=by
 match e,c,d with
 |[a],c,d=>
  grind
 |a::g::e,_,_=>simp
theorem qv.use {a:a7} (p:qv a (a.rows.take a.full) O) (r:a.full<=a.rows.length):(O=([],br,())/\a.choose=bq)\/(O=([],bp,())/\a.choose=Y [])\/∃d i,O=(cO d,bp,())/\mu a d i/\d.length<=a.full/\0<d.length/\a.choose=Y i:=by
 rcases p with⟨f,j⟩|⟨d,f,j,g⟩
 ·exact .inl ⟨f,j⟩
 have s:∀c∈d,a.rows[c]?=Y (a.rows.getD c 0):=λc q=>(by grind);have v:(a.rows.take a.full).length=a.full:=(by grind);rcases Ht (λe h=>h) g with b|⟨e,b,h⟩|⟨e,m,b,h,u,t⟩
 ·rw[b] at g;have:d=[]:=List.map_eq_nil_iff.1 b;subst this;exact .inr (.inl ⟨f,g⟩)
 ·obtain⟨c,rfl,q⟩:=List.map_eq_singleton_iff.1 b;refine .inr (.inr ⟨[c],[e],f,⟨.inl ⟨c,e,bo,bo,?_⟩⟩,?_,ac,by rw[<-b];exact g⟩)
  ·grind
  grind
 match d,b with
 |[c,l],b=>
  simp only[hX,qD,hM,ca] at b;obtain⟨o,n⟩:=b;have k:=g;simp only[hX,qD,o,n] at k;refine .inr (.inr ⟨[c,l],[e,m],f,⟨.inr ⟨c,l,e,m,bo,bo,?_,?_⟩⟩,?_,ac,k⟩)
  ·grind
  ·grind
  grind [afu,amC,List.length_nil]
structure lU (x:a7):Prop where
 okd:x.okd
 nd:x.rows.Nodup
 full:x.full<=x.rows.length
theorem Oe:∀{S:ajZ},S.Nodup->e.Nodup->(∀a∈e,a∈S)->(S.filter λb=>bu (b∉e)).length+e.length=S.length:=by
 induction e with
 |nil=>simp_all
 |cons a e i=>
  intro S d c f;rw[kp] at c;have k:=i (S:=nj a S) (Zv d) c.2 λj h=>Y3.2 ⟨f j (by grind),λg=>c.1 (g▸h)⟩;have l:=Tl d (f a ac);have m:(nj a S).filter (λb=>bu (b∉e))=S.filter λb=>bu (b∉a::e):=(by unfold nj;rw[amz];grind);grind
theorem lU.elim {a:a7} (d:lU a) {b:ajZ} (h:tY (a.rows.take a.full) b):lU (a.elim b) where
 okd:=λg _ l _=>og _ _
 nd:=d.nd.sublist Cn
 full:=by
  show a.full-b.length<=(a.rows.filter λg=>bu (g∉b)).length;have k:∀{c},c∈a.rows.take a.full->c∈a.rows:=λe=>Co e;have f:b.Nodup/\∀c∈b,c∈a.rows:=by
   rcases h with rfl|⟨c,rfl,e⟩|⟨c,m,rfl,e,j,i⟩
   ·grind
   ·grind
   grind
  have:=Oe d.nd f.1 f.2;have:=d.full;omega
theorem BM {b:a7} (d:b.choose=Y e) (f:0<e.length):a7.run (a+1) b=if(b.hu e).fin then(a7.run a (b.elim e)).map (λc=>(c.1,b.hu e::c.2)) else bq:=by grind [a7.run]
theorem Gc {b:a7} (c:b.choose=bq):a7.run (a+1) b=bq:=by rw[a7.run,c]
theorem Gb {b:a7} (c:b.choose=Y []):a7.run (a+1) b=Y (b,[]):=by rw[a7.run,c]
def Hw {a:a7} (b:a.choose=Y e):tY (a.rows.take a.full) e:=Ht (λd c=>c) b
structure Uh (Gx:a7) (n:X) (pv0:bn hd) (y:a7) (ps:bn aR) (m:X):Prop where
 w:lU y
 len:y.rows.length<=1000
 lt:y.full<m
 pl:ps.length+y.full<=Gx.full
 run:a7.run n Gx=(a7.run m y).map λq=>(q.1,ps++q.2)
theorem aej {g:a7} (A:lU g) (L:g.rows.length<=1000) (N:g.full<a) (l:cL) (j:bn db) {pv0:bn hd} (a3:pv0.length<=1000000):ae (loop (σ:=(bA×cL×bn db×bn hd×db×bt)) (ρ:=(bA×cL×bn db×bn hd×db×bt)) (λ(r,u,p,s,m,_)=>
 bif !r then
 (Az (m,())).bind λ(F,T,_)=>
 bC (α:=(bA×cL×bn db×bn hd×db×bt)) (bif !T then
 Y (bp,u,p,s,m,()) else
 Y (r,u,p,s,m,())) λ(B,v,q,t,n,_)=>
  bif ak F==0 then
 Y (.inr (B,v,q,t,n,())) else
 (xS (n,F,())).bind λ(H,I,U,_)=>
 bC (α:=(bA×cL×bn db×bn hd×db×db×hd×bt)) (bif !U then
 Y (bp,v,q,t,n,H,I,()) else
 Y (B,v,q,t,n,H,I,())) λ(S,ad,R,D,_,am,C,_)=>
 (bh (D.length+([C]).length)).bind λ_=>
 Y (.inl (S,ad,R,(D++[C]),am,())) else
 Y (.inr (r,u,p,s,m,()))) (br,l,j,pv0,fL g,())) λe=>
  (∃b d,a7.run a g=Y (b,d)/\e=(br,l,j,pv0++d.map jm,fL b,())/\lU b)\/(a7.run a g=bq/\e.1=bp):=by
 refine aky (λe=>(∃b d k,e=(br,l,j,pv0++d.map jm,fL b,())/\Uh g a pv0 b d k)\/(a7.run a g=bq/\e.1=bp)) (λe=>if e.1=bp then 0 else e.2.2.2.2.1.2.1.toNat+1) (.inl ⟨g,[],a,ac,A,L,N,ac,ac⟩) ?_;rintro e (⟨b,d,k,rfl,c⟩|⟨an,x⟩)
 rotate_left
 ·obtain⟨ce,cs,Jh,ci,cv,_⟩:=e;dsimp only at x;subst x;dsimp only;rw[aM (by rfl)];grind [bv]
 dsimp only;rw[aQ (by rfl)];have a1:=c.lt;have a4:=c.pl;have bl:=A.full;obtain⟨k,rfl⟩:∃Q,k=Q+1:=⟨k-1,aa⟩;refine bF (adE c.w.okd c.len c.w.nd c.w.full) ?_;intro co O;rcases O.use c.w.full with⟨rfl,h⟩|⟨rfl,h⟩|⟨bx,f,rfl,z,M,a0,h⟩
 ·refine bv.2 (.inr ⟨?_,bo⟩);rw[c.run,Gc h];rfl
 ·refine bv.2 (.inl ⟨b,d,?_,bo,c.w⟩);rw[c.run,Gb h];simp
 dsimp only;have ap:=z.len;refine bB (y:=(br,l,j,pv0++d.map jm,fL b,())) (by rfl) ?_;dsimp only;rw[aM (by rw[gh,aC (by grind [a5,hV])])];refine bF (adW c.w.okd c.len c.w.nd z c.w.full M) ?_;rintro⟨E,G,V,_⟩ (⟨o,i⟩|⟨o,i⟩)
 ·have ao:E=fL (b.elim f):=b4 (·.1) i;have J:G=jm (b.hu f):=b4 (·.2.1) i;have K:V=bp:=b4 (·.2.2.1) i;subst ao J K;dsimp only;refine bB (y:=(br,l,j,pv0++d.map jm,fL b,fL (b.elim f),jm (b.hu f),())) (by rfl) ?_;dsimp only;have P:=c.w.full;rw[eC (by grind),bM];have av:(b.elim f).full=b.full-f.length:=rfl;refine bv.2 ⟨.inl ⟨b.elim f,d++[b.hu f],k,ac,c.w.elim (Hw h),cu (aku _ _) c.len,aa,by grind,?_⟩,?_⟩
  ·rw[c.run,BM h aa,ax o,Option.map_map];congr 1;grind
  show(if br=bp then 0 else((b.full-f.length:X):Z).toNat+1)<(if br=bp then 0 else((b.full:X):Z).toNat+1);grind
 dsimp only at i;subst i;dsimp only;refine bB (y:=(bp,l,j,pv0++d.map jm,fL b,E,G,())) (by rfl) ?_;dsimp only;have P:=c.w.full;rw[eC (by grind),bM];refine bv.2 ⟨.inr ⟨?_,bo⟩,?_⟩
 ·rw[c.run,BM h aa,aw o];rfl
 grind
theorem tY.props (b:tY p e):e.Nodup/\∀a∈e,a∈p:=by
 rcases b with rfl|⟨a,rfl,c⟩|⟨a,g,rfl,c,f,d⟩
 ·grind
 ·grind
 grind
def WX (b:∀f∈e,f∉p):(e.filter λd=>bu (d∉p))=e:=
 mU.2 λa c=>aj8 (b a c)
theorem lU.Wq {a:a7} (f:lU a) (i:tY (a.rows.take a.full) e):(a.elim e).rows.take (a.elim e).full=((a.rows.take a.full).filter λb=>bu (b∉e))/\(a.elim e).rows.drop (a.elim e).full=a.rows.drop a.full:=by obtain⟨l,g⟩:=i.props;have c:=f.nd;rw[<-jK a.full a.rows,ji] at c;have k:=Oe c.1 l g;have j:=f.full;rw[gK,h6 j] at k;have ao:(a.elim e).full=((a.rows.take a.full).filter λb=>bu (b∉e)).length:=(by show a.full-e.length=_;omega);have o:(a.elim e).rows=((a.rows.take a.full).filter λb=>bu (b∉e))++a.rows.drop a.full:=(by show(a.rows.filter λb=>bu (b∉e))=_;have h:(a.rows.drop a.full).filter (λb=>bu (b∉e))=a.rows.drop a.full:=WX λd m n=>c.2.2 d (g d n) d m bo;exact(b4 (List.filter λb=>bu (b∉e)) (jK a.full a.rows).symm).trans ((r8 ..).trans (by rw[h])));grind
theorem acX (d:p.Nodup) (c:e.Nodup) (f:∀b∈e,b∈p):(e++p.filter λa=>bu (a∉e)).Perm p:=by grind
structure wT (S:ajZ) (q:aR):Prop where
 nd:q.rows.Nodup
 sub:∀i∈q.rows,i∈S
 len:q.l.length=q.aP.length
 at1:q.aP.length=1\/q.aP.length=2
 dl:q.d.length=2*q.aP.length-1
 fin:q.fin
def lU.adh {a:a7} (h:lU a) (c:tY (a.rows.take a.full) e) (f:0<e.length) (j:(a.hu e).fin) (i:∀d∈a.rows,d∈p):wT p (a.hu e) where
 nd:=h.nd.sublist Cn
 sub:=λd k=>i d (iF.1 k).1
 len:=by rcases c with rfl|⟨b,rfl,_⟩|⟨b,g,rfl,_⟩<;>rfl
 at1:=by
  rcases c with rfl|⟨b,rfl,_⟩|⟨b,g,rfl,_⟩
  ·cases f
  ·exact .inl bo
  exact .inr bo
 dl:=by
  rcases c with rfl|⟨b,rfl,_⟩|⟨b,g,rfl,_⟩
  ·cases f
  ·rfl
  rfl
 fin:=j
structure GO (x y:a7) (ps:bn aR):Prop where
 w:lU y
 rest:y.rows.drop y.full=x.rows.drop x.full
 perm:(ps.flatMap aR.aP++y.rows.take y.full).Perm (x.rows.take x.full)
 hu:∀q∈ps,wT x.rows q
 sub:∀i∈y.rows,i∈x.rows
 done:y.choose=Y []
theorem Sg:∀{n:X} {a m:a7} {k:bn aR},lU a->a.full<n->a7.run n a=Y (m,k)->GO a m k
 |0,a,m,k,_,v,_=>by omega
 |n+1,a,m,k,g,v,d=>by
  match hc:a.choose with
  |none=>grind [Gc]
  |some []=>
   rw[Gb hc] at d;cases d;exact⟨g,bo,amU _,λl f=>(by cases f),λb c=>c,hc⟩
  |some (
   j::h)=>
   rw[BM hc ac] at d;split at d
   case isFalse=>cases d
   rename_i u;have i:=Hw hc;obtain⟨x,q⟩:=i.props;cases p:a7.run n (a.elim (j::h)) with
   |none=>grind
   |some l=>
    obtain⟨s,y⟩:=l;rw[p] at d;cases d;have z:0<a.full:=(by have:=aph (q j ac);grind);have e:=Sg (g.elim i) (aa:a.full-(h.length+1)<n) p;obtain⟨ao,t⟩:=g.Wq i;have r:∀b∈(a.elim (j::h)).rows,b∈a.rows:=λb c=>(iF.1 c).1;refine⟨e.w,e.rest.trans t,?_,?_,λb c=>r b (e.sub b c),e.done⟩
    ·have o:=e.perm;rw[ao] at o;show((j::h)++y.flatMap aR.aP++s.rows.take s.full).Perm _;rw[k6];exact(amx _ o).trans (acX (g.nd.sublist (ama ..)) x q)
    intro l f;rcases fG.1 f with rfl|f
    ·exact g.adh i ac u λb c=>c
    have:=e.hu l f;exact{this with sub:=λb c=>r b (this.sub b c)}
theorem VB {c:a7} (i:c.full=c.rows.length):∀{L:ajZ},(∀p∈L,p∈c.rows)->c.iU L=Y []->L=[]
 |[],_,_=>rfl
 |p::L,k,d=>by
  exfalso;rw[a7.iU] at d;split at d
  ·cases d
  split at d
  ·cases d
  split at d
  ·cases d
  rename_i f h;have m:f∈c.rows.take c.full:=by
   rw[i,hm];have:∀{l:ajZ} {a:Z×ajV},(∀b,a.2=Y b->b∈c.rows)->(∀b∈l,b∈c.rows)->∀b,(fS (λb=>c.av b p) p l a).2=Y b->b∈c.rows:=by
    intro l
    induction l with
    |nil=>intro a g _ b e;exact g b e
    |cons j l n=>
     grind [fS]
   exact this (l:=c.rows) (a:=(0,bq)) ac (λb e=>e) f h
  grind
theorem GO.whole {b a:a7} {h:bn aR} (c:GO b a h) (j:lU b) (g:b.full=b.rows.length):a.rows=[]/\a.full=0:=by have d:a.rows.drop a.full=[]:=(by rw[c.rest,g,List.drop_length]);have e:a.full=a.rows.length:=(by have:=List.drop_eq_nil_iff.1 d;have:=c.w.full;omega);have i:=VB e (L:=a.rows.take a.full) (λk f=>Co f) c.done;grind
section
def gF (l:bn df) (t:X):X:=bm l (t+1)-bm l t
def ie (l:bn df) (t:X):X:=(hC l (t:Z)).length
def jD (l:bn df) (t a:X):X:=((hC l (t:Z)).getD a 0).toNat
def g1 (l:bn df) (t:X):Z:=((l[t]?).map λ(a:df)=>a.2.2.2.1).getD 0
def E0 (l:bn df) (t b:X):Prop:=∃a,gF l t<=a/\a<ie l t/\jD l t a=b
structure jH (n:X) (l:bn df) (t:X):Prop where
 lt:t<l.length
 g:l[t]?=Y ((bm l t:Z),(bm l (t+1):Z),hC l (t:Z),g1 l t,())
 Hn:bm l t<bm l (t+1)
 CS:bm l (t+1)<=n
 ZB:gF l t<=ie l t
 LY:ie l t<=n
 get:∀i,i<ie l t->(hC l (t:Z))[i]?=Y ((jD l t i:X):Z)
 ro:∀i,i<gF l t->jD l t i=bm l t+i
 FW:∀i,gF l t<=i->i<ie l t->bm l (t+1)<=jD l t i
 BI:∀i,i<ie l t->jD l t i<n
 ady:∀i j,i<j->j<ie l t->jD l t i<jD l t j
theorem jH.of {G:eA} {l:bn df} {n t:X} (k:hF G l) (z:G.length=n) (c:t<l.length):jH n l t:=by
 obtain⟨j,m,A,_⟩:=k;obtain⟨v,w,h,x⟩:=(j.1 t c).at c;have e:=m t c;have g:hC l (t:Z)=l[t].2.2.1:=tK c;have B:=e.asc aa aa;have r:(l[t].2.1-l[t].1).toNat=gF l t:=(by grind [gF]);have q:gF l t<=ie l t:=(by unfold ie;rw[g,<-r];exact e.1);have o:∀a,(b:a<l[t].2.2.1.length)->(a<gF l t->l[t].2.2.1[a]=(bm l t:Z)+a)/\(gF l t<=a->(bm l (t+1):Z)<=l[t].2.2.1[a]/\l[t].2.2.1[a]<(n:Z)):=λa b=>(by have f:=e.2 a (c5 _) b b;omega);have F:∀a,(b:a<l[t].2.2.1.length)->0<=l[t].2.2.1[a]/\l[t].2.2.1[a]<(n:Z):=λa b=>(by obtain⟨f,i⟩:=o a b;omega);have p:∀a,a<ie l t->(hC l (t:Z))[a]?=Y ((jD l t a:X):Z):=λa b=>(by grind [b0,jD,ie]);have H:∀a,(b:a<l[t].2.2.1.length)->((jD l t a:X):Z)=l[t].2.2.1[a]:=λa b=>(by grind [aln,b0,ie]);have E:∀a,a<ie l t->a<l[t].2.2.1.length:=λa b=>(by grind);have s:∀a d,a<d->d<ie l t->jD l t a<jD l t d:=λa d C D=>(by grind [aj2]);have u:∀a,a<ie l t->jD l t a<n:=λa b=>(by grind);refine⟨c,?_,h,aa,q,?_,p,λa b=>?_,λa f i=>?_,u,s⟩
 ·rw[bk c,g];have y:g1 l t=l[t].2.2.2.1:=(by simp_all [bk,g1]);grind
 ·have:=JH ((bL (ie l t)).map (jD l t)) n ?_ ?_
  ·simp_all
  ·rw[qE];refine Cm ?_ anJ;grind
  simp_all
 ·grind
 grind
section
variable {n:X} {l:bn df} {t:X}
theorem jH.own (a:jH n l t):bm l t+gF l t=bm l (t+1):=by have:=a.Hn;grind [gF]
theorem jH.pos (d:jH n l t) (g:(a:Z)∈hC l (t:Z)):∃b,b<ie l t/\jD l t b=a:=by obtain⟨b,c,f⟩:=hG.1 g;have e:=d.get b c;rw[bk c,f] at e;exact⟨b,c,by grind⟩
end
section
variable {G:eA} {l:bn df} {n:X}
theorem Vq (d:hF G l) (g:b<=a) (h:a<=l.length):bm l b<=bm l a:=by
 induction a with
 |zero=>grind
 |succ a e=>
  rcases cR a b with c|c
  ·grind
  have:=e c aa;obtain⟨_,_,f,_⟩:=(d.1.1 a aa).at aa;omega
theorem Kn (b:hF G l) (s:G.length=n) {t:X} (d:t<l.length):(g1 l t=-1/\∀e,¬E0 l t e)\/∃a:X,g1 l t=(a:Z)/\t<a/\a<l.length/\∀e,E0 l t e->(e:Z)∈hC l (a:Z):=by
 have f:=jH.of b s d;have k:g1 l t=l[t].2.2.2.1:=(by grind [b0,g1]);have v:hC l (t:Z)=l[t].2.2.1:=tK d;obtain⟨w,x,y,z⟩:=(b.1.1 t d).at d;have u:(l[t].2.1-l[t].1).toNat=gF l t:=(by grind [gF]);have C:=b.parent d;rcases b.2.2.1 t d with⟨h,c⟩|⟨h,c,A⟩
 ·refine .inl ⟨by rw[k,c],?_⟩;rintro e ⟨j,ay,p,_⟩;grind [ie]
 right;simp only[u] at h c;have i:gF l t<ie l t:=(by grind [ie]);have g:=f.get (gF l t) i;rw[v,bk h] at g;have g:=gb g;rw[g,fF] at c;have E:=f.BI _ i;have D:=f.FW _ (bd _) i;obtain⟨a,m,q,r⟩:=xh b.1 (aa:jD l t (gF l t)<G.length);rw[wD.last b.1 (⟨m,q,r⟩:wD l _ a)] at c;refine⟨a,by rw[k,c],?_,m,?_⟩
 ·rcases cR t a with o|o
  ·exact o
  have:=Vq b (aa:a+1<=t+1) aa;omega
 rintro e ⟨j,ay,p,rfl⟩;have B:j<l[t].2.2.1.length:=(by grind [ie]);have F:=f.get j p;grind
end
end
section
def E3:X->X
 |0=>0
 |t+1=>E3 t+(E3 t+5)
def hp (l:bn df) (t b:X):ajZ:=(bL t).filter λa=>bu (g1 l a=(b:Z))
section
variable {A:X->X->ajU} {n:X} {l:bn df} {B:X->X->X->Z} {t:X}
end
end
section
def W0 {e:Type} {l:bn g} {b c:g->bn e} (d:∀a∈l,b a=c a):l.flatMap b=l.flatMap c:=by rw[api,api,ju d]
def Bm:c8 (Y 0):=λb a=>by cases a;exact(by decide:aS 0<=131072)
def iX:a7:=⟨[],0,λ_ _=>Y 0⟩
def a7.plus (c d:a7):a7:=⟨c.rows,c.full,λa b=>if a∈d.rows/\b∈d.rows then gO (c.s a b) (d.s a b) else c.s a b⟩
def nR (l:bn df) (a:X):ajZ:=(akv (gF l a) (ie l a-gF l a)).map (jD l a)
def jT (l:bn df) (b:X->a7) (a:X):ajZ:=((hp l a a).flatMap λc=>(b c).rows.take (b c).full)++akv (bm l a) (gF l a)
def jj (d:X->X->ajU) (l:bn df) (c a b:X):ajU:=if bm l c<=min a b/\min a b<bm l (c+1) then d a b else Y 0
def oi (c:X->X->ajU) (l:bn df) (b:X->a7) (a:X):a7:=⟨jT l b a++nR l a,(jT l b a).length,jj c l a⟩
def my (c:X->X->ajU) (l:bn df) (b:X->a7) (a:X):a7:=(hp l a a).foldl (λe d=>e.plus (b d)) (oi c l b a)
def FQ (b:X->a7):∀(d:ajZ) (a:a7),(d.foldl (λa c=>a.plus (b c)) a).rows=a.rows/\(d.foldl (λa c=>a.plus (b c)) a).full=a.full
 |[],_=>⟨bo,bo⟩
 |c::d,a=>FQ b d (a.plus (b c))
theorem Kq (e:X->a7):∀(f:ajZ) (a:a7),(∀b d,c8 (a.s b d))->∀b d,c8 ((f.foldl (λa c=>a.plus (e c)) a).s b d)
 |[],_,g=>g
 |c::f,a,g=>Kq e f (a.plus (e c)) λb d=>by show c8 (if _ then _ else _);grind [og]
def ka (b:X->X->ajU) (l:bn df):X->bw (bn a7×bn aR)
 |0=>Y ([],[])
 |t+1=>(ka b l t).bind λa=>(a7.run ((my b l (λc=>a.1.getD c iX) t).full+1) (my b l (λc=>a.1.getD c iX) t)).map λd=>(a.1++[d.1],a.2++d.2)
def pR (l:bn df) (b:X):ajZ:=(bL b).filter λa=>bu (g1 l a=-1\/(b:Z)<=g1 l a)
def kA (a:X->a7) (b:X):ajZ:=(a b).rows.take (a b).full
structure ko (l:bn df) (n t:X) (L:X->a7) (ps:bn aR):Prop where
 w:∀c,c<t->lU (L c)
 rest:∀c,c<t->(L c).rows.drop (L c).full=nR l c
 perm:(ps.flatMap aR.aP++(pR l t).flatMap (kA L)).Perm (bL (bm l t))
 root:∀c,c<t->g1 l c=-1->(L c).rows=[]/\(L c).full=0
 hu:∀q∈ps,wT (bL n) q
 BI:∀c,c<t->∀i∈(L c).rows,i<n
section
variable {G:eA} {l:bn df} {n:X}
theorem yq:b∈nR l a↔E0 l a b:=by unfold nR E0;grind
theorem PE:a∈hp l f b↔a<f/\g1 l a=(b:Z):=by unfold hp;grind
theorem UF (a:X):(hp l a a++(bL a).filter λb=>bu (g1 l b=-1\/(a:Z)<g1 l b)).Perm (pR l a):=by have e:=List.filter_append_perm (λb=>bu (g1 l b=(a:Z))) (pR l a);have ao:(pR l a).filter (λb=>bu (g1 l b=(a:Z)))=hp l a a:=(by unfold pR hp;rw[amz];refine qz λb _=>?_;grind);have d:(pR l a).filter (λc=>!bu (g1 l c=(a:Z)))=(bL a).filter λb=>bu (g1 l b=-1\/(a:Z)<g1 l b):=(by unfold pR;rw[amz];refine qz λb _=>?_;rw[wy];simp only[cE,tX,anL,akn];omega);grind
theorem UE (c:g1 l a=-1\/(a:Z)<g1 l a):pR l (a+1)=((bL a).filter λb=>bu (g1 l b=-1\/(a:Z)<g1 l b))++[a]:=by grind [akp,alp,cB,aj8,decide,g1,pR]
def aek (e:jH n l a):(nR l a).Nodup:=by unfold nR List.Nodup;rw[qE];have d:=List.pairwise_lt_range' (s:=gF l a) (n:=ie l a-gF l a);refine(Cm ?_ d);intro b c f h g;rw[List.mem_range'_1] at f h;have:=e.ady b c g aa;omega
theorem ko.zA {b:X->a7} {d:bn aR} (h:ko l n a b d) (f:jH n l a):((d.flatMap aR.aP++(((bL a).filter λc=>bu (g1 l c=-1\/(a:Z)<g1 l c)).flatMap (kA b)))++jT l b a).Perm (bL (bm l (a+1))):=by
 have i:=h.perm;have e:=(UF (l:=l) a).flatMap_right (kA b);rw[n2] at e;have g:bL (bm l (a+1))=bL (bm l a)++akv (bm l a) (gF l a):=(by have:=f.own;rw[apj,apj,<-f.own];have:=List.range'_append (s:=0) (m:=bm l a) (n:=gF l a) (step:=1);grind);rw[g];have j:(d.flatMap aR.aP++(((bL a).filter λc=>bu (g1 l c=-1\/(a:Z)<g1 l c)).flatMap (kA b)++(hp l a a).flatMap (kA b))).Perm (bL (bm l a)):=
  (amx _ (List.perm_append_comm.trans e)).trans i
 unfold jT;rw[<-k6];refine List.Perm.append_right _ ?_;rw[k6];exact j
theorem ko.zB (v:∀c f,c8 (P c f)) {b:X->a7} {q:bn aR} (j:ko l n a b q) (g:jH n l a):lU (my P l b a):=by
 have h:=j.zA g;have o:=h.nodup_iff.2 amY;obtain⟨ao,i⟩:=FQ b (hp l a a) (oi P l b a);refine⟨λc _ f _=>Kq b _ _ (λc f=>?_) c f,?_,?_⟩
 ·show c8 (if _ then _ else _);split
  ·grind
  exact Bm
 ·show((hp l a a).foldl (λe d=>e.plus (b d)) (oi P l b a)).rows.Nodup;rw[ao];refine ji.2 ⟨(ji.1 o).2.1,aek g,λr k s m t=>?_⟩;have u:=jJ.1 (h.mem_iff.1 (lD _ k));obtain⟨c,i1,p,w⟩:=yq.1 m;have:=g.FW c i1 p;omega
 show((hp l a a).foldl (λe d=>e.plus (b d)) (oi P l b a)).full<=((hp l a a).foldl (λe d=>e.plus (b d)) (oi P l b a)).rows.length;rw[ao,i];show(jT l b a).length<=(jT l b a++nR l a).length;grind
def zC (c:X->X->ajU) (b:X->a7) (a:X):(my c l b a).rows=jT l b a++nR l a/\(my c l b a).full=(jT l b a).length:=FQ b (hp l a a) (oi c l b a)
def ko.CN (f:X->X->ajU) {c:X->a7} {j:bn aR} (h:ko l n b c j) (d:jH n l b) (g:a∈(my f l c b).rows):a<n:=by
 rw[(zC f c b).1,ha] at g;have:=d.CS;rcases g with e|e
 ·have k:=jJ.1 ((h.zA d).mem_iff.1 (lD _ e));omega
 obtain⟨a,i1,i,m⟩:=yq.1 e;have:=d.BI a i;omega
theorem ko.ME (b:X->X->ajU) (g:∀f i,c8 (b f i)) {c:X->a7} {j:bn aR} (d:ko l n a c j) (e:jH n l a):(my b l c a).rows.length<=n:=by have:=(d.zB g e).nd.length_le_of_subset (l₂:=bL n) λf h=>jJ.2 (d.CN b e h);grind
theorem ko.child (h:X->X->ajU) (k:hF G l) (j:G.length=n) (s:a<l.length) {c:X->a7} {v:bn aR} (q:ko l n a c v) (r:b∈hp l a a) (m:f∈(c b).rows):f∈(my h l c a).rows:=by
 have i:=jH.of k j s;obtain⟨p,x⟩:=PE.1 r;rw[(zC h c a).1];unfold jT;rw[<-jK (c b).full (c b).rows,ha] at m;rcases m with d|d
 ·grind
 rw[q.rest b p] at d;have d:=yq.1 d;rcases Kn k j (aa:b<l.length) with⟨y,_⟩|⟨o,z,A,B,w⟩
 ·omega
 obtain rfl:o=a:=aa;obtain⟨g,t,u⟩:=i.pos (w f d);rcases cR g (gF l o) with e|e
 ·have:=i.ro g e;grind
 exact lD _ (yq.2 ⟨g,e,t,u⟩)
theorem x1 {h:X->X->ajU} (C:∀k M,c8 (h k M)) (y:hF G l) (x:G.length=n):∀{t:X},t<=l.length->∀{o:bn a7} {u:bn aR},ka h l t=Y (o,u)->o.length=t/\ko l n t (λa=>o.getD a iX) u
 |0,_,o,u,e=>by rw[ka] at e;cases e;refine⟨bo,⟨λa g=>by omega,λa g=>by omega,?_,λa g=>by omega,λb A=>(by cases A),λa g=>by omega⟩⟩;show List.Perm [] (bL (bm l 0));have:bm l 0=0:=rfl;grind
 |t+1,R,o,u,e=>by
  rw[ka] at e;cases D:ka h l t with
  |none=>grind
  |some N=>
   obtain⟨c,S⟩:=N;obtain⟨i1,f⟩:=x1 C y x aa D;have p:=jH.of y x (aa:t<l.length);rw[D] at e;dsimp only[bM] at e;have z:=f.zB C p;generalize s:my h l (λa=>c.getD a iX) t=m at e;rw[s] at z;cases E:a7.run (m.full+1) m with
   |none=>grind
   |some b=>
    obtain⟨d,T⟩:=b;rw[E] at e;cases e;have j:=Sg z (pJ _) E;have L:=(zC h (λa=>c.getD a iX) t (l:=l));rw[s] at L;have K:m.rows.take m.full=jT l (λa=>c.getD a iX) t:=(by grind);have H:m.rows.drop m.full=nR l t:=(by grind);have q:∀a,a<t->(c++[d]).getD a iX=c.getD a iX:=λa g=>(by rw[n3,n3,ug aa]);have r:(c++[d]).getD t iX=d:=(by grind);have Q:=Kn y x (aa:t<l.length);refine⟨by grind,⟨?_,?_,?_,?_,?_,?_⟩⟩
    ·intro a g;dsimp only;rcases cm a t with b|b
     ·rw[q a b];exact f.w a b
     obtain rfl:a=t:=aa;rw[r];exact j.w
    ·intro a g;dsimp only;rcases cm a t with b|b
     ·rw[q a b];exact f.rest a b
     obtain rfl:a=t:=aa;rw[r,j.rest,H]
    ·rw[UE (by grind),n2,n2];have ao:((bL t).filter λa=>bu (g1 l a=-1\/(t:Z)<g1 l a)).flatMap (kA λa=>(c++[d]).getD a iX)=((bL t).filter λa=>bu (g1 l a=-1\/(t:Z)<g1 l a)).flatMap (kA λa=>c.getD a iX):=by
      refine W0 λa g=>?_;show((c++[d]).getD a iX).rows.take ((c++[d]).getD a iX).full=(c.getD a iX).rows.take (c.getD a iX).full;grind
     have F:amZ (kA λa=>(c++[d]).getD a iX) [t]=d.rows.take d.full:=(by show(((c++[d]).getD t iX).rows.take ((c++[d]).getD t iX).full)++[]=_;grind);rw[ao,F];have I:=j.perm;rw[K] at I;refine List.Perm.trans ?_ (f.zA p);grind
    ·intro a g J;dsimp only;rcases cm a t with b|b
     ·rw[q a b];exact f.root a b J
     obtain rfl:a=t:=aa;rw[r];refine j.whole z ?_;have:nR l a=[]:=apk.2 λO P=>(by grind [yq]);grind
    ·intro b A;rcases ha.1 A with v|v
     ·exact f.hu b v
     have B:=j.hu b v;exact{B with sub:=λk i=>jJ.2 (f.CN h p (by rw[s];exact B.sub k i))}
    intro a g k i;dsimp only at i;rcases cm a t with b|b
    ·rw[q a b] at i;exact f.BI a b k i
    obtain rfl:a=t:=aa;rw[r] at i;exact f.CN h p (by rw[s];exact j.sub k i)
theorem ko.Ok {b:X->a7} {h:bn aR} (d:ko l n a b h) {c:X} (e:c<a):(b c).full<=n/\(b c).rows.length<=n:=by have i:=(d.w c e).nd.length_le_of_subset (l₂:=bL n) λg f=>jJ.2 (d.BI c e g f);have j:=(d.w c e).full;grind
def ko.all {b:X->a7} {h:bn aR} (g:hF G l) (f:G.length=n) (d:ko l n l.length b h):(h.flatMap aR.aP).Perm (bL n):=by
 have e:=d.perm;have j:(pR l l.length).flatMap (kA b)=[]:=List.flatMap_eq_nil_iff.2 λi k=>by
  obtain⟨a,c⟩:=iF.1 k;have a:=jJ.1 a;have c:=alz c;rcases Kn g f a with⟨m,_⟩|⟨o,p,_,q,_⟩
  ·unfold kA;rw[(d.root i a m).1,List.take_nil]
  omega
 rw[j,pB,g.1.2,f] at e;exact e
end
def Oq {G:eA} {l:bn df} (c:hF G l):l.length<=G.length:=by
 have:∀a,a<=l.length->a<=bm l a:=by
  intro a
  induction a with
  |zero=>omega
  |succ a d=>
   intro e;have:=d aa;have:=(jH.of c bo (aa:a<l.length)).Hn;omega
 have b:=this l.length (bd _);rw[c.1.2] at b;exact b
end
theorem NK {b:ajU} (c:c8 b):uU (az b,d,())=Y (lu b d,()):=by
 unfold uU;refine af (NJ c) ?_;dsimp only;rw[vp];cases b with
 |none=>rfl
 |some a=>
  have e:=c a bo;have j:=km e;have g:=kC e;refine af (xX c) ?_;dsimp only;show(bif gS a==0 then _ else _)=_;rw[k1];unfold lu yJ;by_cases f:a=0
  ·grind
  rw[aC f];simp only;rw[aw f,bR];have i:0<(cY a).natAbs:=(by grind [ki]);refine af (y:=(rc (bu (a<0)) (cY a).natAbs (hA a) br,())) ?_ ?_
  ·unfold HH;rw[gX];refine af (G1 (li aa)) ?_;simp_all [aw,Fv,rc,c4]
  have h:c4 a=hA a:=(by unfold c4;omega);rw[h] at g;exact af (aeb aa i aa aa) rfl
theorem UK (a:c9 d):CF bE d 9223372036854775808=d %9223372036854775808:=by obtain⟨b,rfl⟩:=fZ a.1;have c:b<18446744073709551616:=(by have:=a.2;omega);unfold CF;rw[show bE.bits=64 from rfl,BitVec.toNat_and,Vp c,(ab:(~~~ch 64 9223372036854775808).toNat=2^63-1),anK];grind [B6,ak8]
theorem W7 (b:c9 d) (f:cS d≠2047):C7 ([d],())=Y (br,()):=by
 unfold C7;refine bN.1 ?_;dsimp only;refine bF (P:=λc=>c=.inl ()) ?_ (by grind [bv]);refine bQ 1 (λa e=>e=((a:Z),())) rfl ?_ ?_
 ·rintro a _ g rfl;obtain rfl:a=0:=aa;dsimp only;rw[aQ (by rfl)];refine bB (y:=d) rfl (bB (Yb b) ?_);dsimp only;rw[aM (by
   rw[gh];refine aC ?_;unfold p9;omega)]
  exact bv.2 bo
 rintro _ rfl;dsimp only;rw[aM (by rfl)];grind [bv]
theorem N8 (b:c9 d) (a:cS d≠2047):sx (d,())=Y (d %9223372036854775808,()):=by simp_all [bR,UK,af,W7,sx]
section
def kQ {α:Type} (l:ajZ) (f g:X->X->α) (c d a b:X):α:=if(a∈l.take c/\b∈l)\/(l[c]?=Y a/\b∈l.take d) then f a b else g a b
section
variable {α:Type} {l:ajZ} {f g:X->X->α}
theorem V7:kQ l f g 0 0=g:=by grind [kQ]
theorem V6 (c:a<l.length):kQ l f g a l.length=kQ l f g (a+1) 0:=by funext i b;unfold kQ;have:(i∈l.take a/\b∈l\/l[a]?=Y i/\b∈l.take l.length)↔(i∈l.take (a+1)/\b∈l\/l[a+1]?=Y i/\b∈l.take 0):=(by rw[hm,iG,bk c];grind);grind
theorem V3:kQ l f g l.length 0=λa b=>if a∈l/\b∈l then f a b else g a b:=by grind [kQ]
theorem V5 (e:l.Nodup) (c:a<l.length) (d:b<l.length):kQ l f g a b l[a] l[b]=g l[a] l[b]:=by unfold kQ;rw[aw];grind [amQ,amb]
theorem V4 (h:a<l.length) (i:b<l.length):kQ l f g a (b+1)=λc d=>if c=l[a]/\d=l[b] then f l[a] l[b] else kQ l f g a b c d:=by
 funext c d;unfold kQ;by_cases e:c=l[a]/\d=l[b]
 ·obtain⟨rfl,rfl⟩:=e;rw[ax (show l[a]=l[a]/\l[b]=l[b] from⟨bo,bo⟩),ax];grind [List.mem_append_right,cB,aj5,b0]
 rw[aw e];grind [aj5,b0,cB,alX]
end
def lP (a:ajZ) (b:X->X->ik):bn (bn ik):=a.map λc=>a.map λd=>b c d
def afj (a:ajZ) (b:X->X->ik):(lP a b).length=a.length:=eM _
theorem afi (d:X->X->ik) (g:e[f]?=Y a) (h:e[s]?=Y b):∃c,(lP e d)[f]?=Y c/\c.length=e.length/\c[s]?=Y (d a b):=by simp_all [jI,eM,lP]
theorem St {f:Type} (k:e.Nodup) (i:e[a]?=Y b) (g:X->f) (d:f):(e.map g).set a d=e.map λc=>if c=b then d else g c:=by
 refine il λj=>?_;rw[wL,jI,jI,eM];have l:a<e.length:=(hN.1 i).1;by_cases h:a=j
 ·grind
 rw[aw h];grind [amp]
theorem afk (i:e.Nodup) (c:X->X->ik) (l:e[b]?=Y a) (m:e[s]?=Y f) (j:ik) {h:bn ik} (n:(lP e c)[b]?=Y h):(lP e c).set b (h.set s j)=lP e λg d=>if g=a/\d=f then j else c g d:=by have k:h=e.map λd=>c a d:=(by grind [aln,lP]);subst k;rw[St i m];unfold lP;rw[St i l];refine ju λg _=>?_;grind
end
section
section
variable {G:eA} {l:bn df} {n t:X} {L:X->a7} {ps:bn aR} {A:X->X->ajU}
theorem Hx (l:bn df) (t a:X):hp l (t+1) a=if g1 l t=(a:Z) then hp l t a++[t] else hp l t a:=by grind [akp,g1,hp]
theorem M3 (b:X->ajZ) (a c:X):∀d,((hp l a c).flatMap b).length<=((hp l (a+d) c).flatMap b).length
 |0=>bd _
 |d+1=>by have e:=M3 b a c d;grind [akE,Hx]
def ko.MD (b:ko l n t L ps) (a:jH n l t):(jT l L t).length<=n:=by have c:=(b.zA a).length_eq;rw[hW,pG] at c;have:=a.CS;omega
def ko.M2 (c:ko l n t L ps) (e:jH n l t) (g:a<=t):((hp l a t).flatMap (kA L)).length<=n:=by have b:=c.MD e;unfold jT at b;rw[hW] at b;have d:=M3 (l:=l) (kA L) a t (t-a);rw[(aa:a+(t-a)=t)] at d;have f:((hp l t t).flatMap λa=>(L a).rows.take (L a).full).length=((hp l t t).flatMap (kA L)).length:=rfl;omega
theorem Zi (b:ajZ) (a:X):(cO b).take a=cO (b.take a):=by grind [an5,cO]
theorem A9 (c:a<e.length):aj (cO e) (a:Z)=Y ((e[a]:X):Z):=by rw[iy];show(e.map λ(b:X)=>(b:Z))[a]?=_;grind
theorem FX (c:a<e.length) (b:Z->bw g):rd (cO e) (a:Z) b=b ((e[a]:X):Z):=by simp_all [hV,fB,aI,ir,A9,iy,cO,rd]
def lv (a:ajZ) (c:X->X->ik) (d b:X):bn ik:=(a.take b).map (c (a.getD d 0))++bJ (a.length-b) (br,((br,(([]:aj0),())),((0:Z),())))
theorem R7 {c:X->X->ik} (d:a<=e.length):(lv e c b a).length=e.length:=by grind [akE,b9,aki,List.length_replicate,lv]
theorem R8 {h:X->X->ik} (d:a<e.length):(lv e h b a).set a (h (e.getD b 0) e[a])=lv e h b (a+1):=by unfold lv;have c:e.length-a=(e.length-(a+1))+1:=aa;have f:((e.take a).map (h (e.getD b 0))).length=a:=(by grind);rw[amH _ _ aa,f,ur,c,List.replicate_succ,List.set_cons_zero,iG,bk d,j4,k6];rfl
theorem aec {h:X->X->ik} (c:a<e.length) (g:h (e.getD b 0) e[a]=az (Y 0)):lv e h b a=lv e h b (a+1):=by
 rw[<-R8 c,g];refine(il λi=>?_);rw[wL];by_cases d:a=i
 ·subst d;rw[ax bo,R7 aa,ax c];unfold lv;have f:((e.take a).map (h (e.getD b 0))).length=a:=(by grind);rw[sa aa,f,ur,List.getElem?_replicate,ax aa];rfl
 grind
theorem adC (J:hF G l) (I:G.length=n) (ap:t<l.length) (z:ko l n t L ps) (T:∀a b,c8 (A a b)) (f3:n<=100) (f0:l.length<=100) {S:nv} (bx:∀a b:X,a<n->b<n->vd (S,c,(a:Z),(b:Z),())=Y (az (A a b),())):Eh (S,c,l,(t:Z),(bL t).map (λe=>fL (L e)),())=Y (fL (my A l L t),()):=by
 have r:=jH.of J I ap;have fn:=z.MD r;have N:∀e,e<=t->∃j:df,aj l (e:Z)=Y j/\j=((bm l e:Z),(bm l (e+1):Z),hC l (e:Z),g1 l e,()):=λe B=>(by have:=(jH.of J I (aa:e<l.length)).g;grind [iy]);have O:∀e,e<t->aj ((bL t).map λe=>fL (L e)) (e:Z)=Y (fL (L e)):=λe B=>(by grind [iy,List.getElem?_range]);have fr:=r.CS;have f5:=r.own;have ci:=z.zB T r;have E:=zC A L t (l:=l);have V:∀a∈jT l L t++nR l t,a<n:=λa o=>z.CN A r (by grind);have ce:=z.ME A T r;rw[E.1] at ce;have ad:=ci.nd;rw[E.1] at ad;unfold Eh;refine bN.1 ?_;dsimp only;refine bF (P:=λk=>k=(([],((0:Z),([],()))),(cO ((hp l t t).flatMap (kA L)),((0:Z),([],()))),())) ?_ ?_
 ·refine bQ t (λe k=>k=((e:Z),([],((0:Z),([],()))),(cO ((hp l e t).flatMap (kA L)),((0:Z),([],()))),())) rfl ?_ ?_
  ·rintro e _ B rfl;dsimp only;rw[aQ (aJ (aa:(e:Z)<(t:Z))),ba aa];obtain⟨j,v,rfl⟩:=N e aa;refine bF (P:=λk=>k=(([],((0:Z),([],()))),(cO ((hp l (e+1) t).flatMap (kA L)),((0:Z),([],()))),())) ?_ (by grind [bv]);refine bB v ?_;dsimp only;have M:=z.M2 r (aa:e+1<=t);rw[Hx] at M|-;rw[gh,cW];by_cases p:g1 l e=(t:Z)
   ·rw[ax p] at M|-;rw[ax p];refine bB (O e B) (bB (O e B) ?_);have F:=(z.w e B).full;rw[n2,hW] at M;have f1:(cO (L e).rows).length=(L e).rows.length:=hV _;refine bB (y:=(0,(L e).full)) ?_ ?_
    ·have el:(fL (L e)).2.1=((L e).full:Z):=rfl;simp_all [aI,Fq,rv,c5,fL]
    have a4:((((fL (L e)).1).take (L e).full).drop 0)=cO (kA L e):=(by show((cO (L e).rows).take (L e).full).drop 0=_;rw[List.drop_zero,Zi];rfl);dsimp only;rw[a4];have ft:(kA L e).length<=n:=(by grind);rw[eC (by grind [hV]),bM];grind [yw,bv]
   rw[aw p,aw p];grind [bv]
  rintro _ rfl;dsimp only;rw[aM (aC (aa:¬(t:Z)<(t:Z)))];grind [bv]
 rintro _ rfl;dsimp only;obtain⟨j,v,rfl⟩:=N t (cd _);refine bB v ?_;dsimp only;have fs:=z.M2 r (cd t);refine bF (P:=λk=>k=(([],((0:Z),([],()))),(cO (jT l L t),((0:Z),([],()))),())) ?_ ?_
 ·refine bQ (gF l t) (λa k=>k=(((bm l t+a:X):Z),([],((0:Z),([],()))),(cO ((hp l t t).flatMap (kA L)++akv (bm l t) a),((0:Z),([],()))),())) ?_ ?_ ?_
  ·grind
  ·rintro a _ o rfl;dsimp only;refine bB v ?_;dsimp only;rw[aQ (aJ (aa:((bm l t+a:X):Z)<(bm l (t+1):Z))),ba aa];rw[eC (by grind [am0,hV,akE,am1]),bM];refine bv.2 ?_;rw[an6,<-akZ,yw ((hp l t t).flatMap (kA L)++akv (bm l t) a),amX];rfl
  rintro _ rfl;dsimp only;refine bB v ?_;dsimp only;rw[aM (aC (aa:¬(((bm l t+gF l t:X):Z)<(bm l (t+1):Z))))];exact bv.2 bo
 rintro _ rfl;dsimp only;have em:=r.LY;have f4:=r.ZB;rw[show ak (cO (jT l L t))=((jT l L t).length:Z) by rw[a5,hV]];generalize c1:((jT l L t).length:Z)=q;refine bF (P:=λk=>k=(([],((0:Z),([],()))),(cO (jT l L t++nR l t),(q,([],()))),())) ?_ ?_
 ·refine bQ (ie l t) (λa k=>k=((a:Z),([],((0:Z),([],()))),(cO (jT l L t++(akv (gF l t) (a-gF l t)).map (jD l t)),(q,([],()))),())) ?_ ?_ ?_
  ·grind
  ·rintro a _ o rfl;dsimp only;refine bB v ?_;dsimp only;rw[aQ (aJ (show(a:Z)<ak (hC l (t:Z)) by grind [a5,ie])),ba aa];have am:aj (hC l (t:Z)) (a:Z)=Y ((jD l t a:X):Z):=(by rw[iy];exact r.get a o);refine bF (P:=λk=>k=(([],((0:Z),([],()))),(cO (jT l L t++(akv (gF l t) (a+1-gF l t)).map (jD l t)),(q,([],()))),())) ?_ (by grind [bv]);refine bB v (bB am (bB v ?_));dsimp only;rcases cm a (gF l t) with p|p
   ·have:=r.ro a p;rw[aM (aC (aa:¬((jD l t a:X):Z)>=(bm l (t+1):Z))),(aa:a+1-gF l t=a-gF l t)];grind [bv]
   have:=r.FW a p o;rw[aQ (aJ (aa:((jD l t a:X):Z)>=(bm l (t+1):Z))),(aa:a+1-gF l t=a-gF l t+1)];refine bB v (bB am ?_);rw[eC (by grind [am0,hV,akE,b9,am1]),aI];refine bv.2 ?_;rw[an6,j4,<-k6,yw (jT l L t++(akv (gF l t) (a-gF l t)).map (jD l t)),jL,(aa:gF l t+(a-gF l t)=a)];rfl
  rintro _ rfl;dsimp only;refine bB v ?_;dsimp only;rw[aM (aC (show¬((ie l t:Z)<ak (hC l (t:Z))) by grind [a5,ie]))];exact bv.2 bo
 rintro _ rfl;dsimp only;generalize eq:jT l L t++nR l t=d at*;have U:ak (cO d)=(d.length:Z):=(by rw[a5,hV]);have fz:∀a,(a3:a<d.length)->d.getD a 0=d[a]:=λa a3=>(by grind);refine bF (P:=λk=>k=(([],((0:Z),([],()))),(cO d,(q,(lP d (λa b=>az (jj A l t a b)),()))),())) ?_ ?_
 ·refine bQ d.length (λa k=>k=((a:Z),([],((0:Z),([],()))),(cO d,(q,((d.take a).map (λa=>d.map λb=>az (jj A l t a b)),()))),())) rfl ?_ ?_
  ·rintro a _ o rfl;dsimp only;rw[U,aQ (aJ (aa:(a:Z)<(d.length:Z))),ba aa,iP aa,bM,eC (by grind),bM];have ds:((d.take a).map (λa=>d.map λb=>az (jj A l t a b))).length=a:=(by grind);refine bF (P:=λk=>k=(([],((0:Z),([],()))),(cO d,(q,((d.take a).map (λa=>d.map λb=>az (jj A l t a b))++[lv d (λa b=>az (jj A l t a b)) a d.length],()))),())) ?_ ?_
   ·refine bQ d.length (λb k=>k=((b:Z),([],((0:Z),([],()))),(cO d,(q,((d.take a).map (λa=>d.map λb=>az (jj A l t a b))++[lv d (λa b=>az (jj A l t a b)) a b],()))),())) ?_ ?_ ?_
    ·rfl
    ·rintro b _ u rfl;dsimp only;rw[aQ (aJ (aa:(b:Z)<(d.length:Z))),ba aa];refine bF (P:=λk=>k=(([],((0:Z),([],()))),(cO d,(q,((d.take a).map (λa=>d.map λb=>az (jj A l t a b))++[lv d (λa b=>az (jj A l t a b)) a (b+1)],()))),())) ?_ (by grind [bv]);rw[FX o,FX u];have dg:(if((d[b]:X):Z)<((d[a]:X):Z) then((d[b]:X):Z) else((d[a]:X):Z))=((min d[a] d[b]:X):Z):=aa;rw[dg];refine bB (y:=(bu (bm l t<=min d[a] d[b]/\min d[a] d[b]<bm l (t+1)),([],((0:Z),([],()))),(cO d,(q,((d.take a).map (λa=>d.map λb=>az (jj A l t a b))++[lv d (λa b=>az (jj A l t a b)) a b],()))),())) ?_ ?_
     ·refine af v ?_;dsimp only;by_cases p:bm l t<=min d[a] d[b]
      ·simp_all
      grind
     dsimp only;by_cases p:bm l t<=min d[a] d[b]/\min d[a] d[b]<bm l (t+1)
     ·rw[aQ (aJ p)];have av:((d.take a).map (λa=>d.map λb=>az (jj A l t a b))++[lv d (λa b=>az (jj A l t a b)) a b])[a]?=Y (lv d (λa b=>az (jj A l t a b)) a b):=by
       simp_all
      rw[fB (by grind),bM,FX o,FX u];refine bB (bx _ _ (V _ (b5 o)) (V _ (b5 u))) ?_;dsimp only;have fp:(lv d (λa b=>az (jj A l t a b)) a b).length=d.length:=R7 aa;rw[ir av,bM,fB aa,bM,ir av,ir (b0 (aa:b<(lv d (λa b=>az (jj A l t a b)) a b).length))];refine bv.2 ?_;have d0:az (A d[a] d[b])=az (jj A l t (d.getD a 0) d[b]):=(by simp_all [cc,jj]);dsimp only;rw[d0,R8 (h:=λa b=>az (jj A l t a b)) u,amH _ _ aa,ds,Nat.sub_self];rfl
     rw[aM (aC p)];refine bv.2 ?_;rw[aec (h:=λa b=>az (jj A l t a b)) u (by simp_all [aw,jj])]
    rintro _ rfl;dsimp only;rw[aM (aC (aa:¬(d.length:Z)<(d.length:Z)))];grind [bv]
   rintro _ rfl;refine bv.2 ?_;have:lv d (λa b=>az (jj A l t a b)) a d.length=d.map λb=>az (jj A l t d[a] b):=(by simp_all [pB,ur,hm,lv]);rw[this,iG,bk o,j4];rfl
  rintro _ rfl;dsimp only;rw[U,aM (aC (aa:¬(d.length:Z)<(d.length:Z))),cy];exact bv.2 bo
 rintro _ rfl;dsimp only;have cv:∀e,((hp l e t).foldl (λm e=>m.plus (L e)) (oi A l L t)).rows=d:=λe=>(by simp_all [FQ,hp,oi]);have dl:∀e a b,c8 (((hp l e t).foldl (λm e=>m.plus (L e)) (oi A l L t)).s a b):=λe=>Kq L _ _ λa b=>by
  show c8 (if _ then _ else _);split
  ·grind
  exact Bm
 refine bF (P:=λk=>k=(([],((0:Z),([],()))),fL (my A l L t),())) ?_ (by grind [bv]);refine bQ t (λe k=>k=((e:Z),([],((0:Z),([],()))),(cO d,(q,(lP d (λa b=>az (((hp l e t).foldl (λm e=>m.plus (L e)) (oi A l L t)).s a b)),()))),())) rfl ?_ ?_
 rotate_left
 ·rintro _ rfl;dsimp only;rw[aM (aC (aa:¬(t:Z)<(t:Z)))];refine bv.2 ?_;unfold fL;rw[E.1,E.2,c1];rfl
 rintro e _ B rfl;dsimp only;rw[aQ (aJ (aa:(e:Z)<(t:Z))),ba aa];obtain⟨j,d2,rfl⟩:=N e aa;refine bF (P:=λk=>k=(([],((0:Z),([],()))),(cO d,(q,(lP d (λa b=>az (((hp l (e+1) t).foldl (λm e=>m.plus (L e)) (oi A l L t)).s a b)),()))),())) ?_ (by grind [bv]);refine bB d2 ?_;dsimp only;rw[fq,Hx];by_cases p:g1 l e=(t:Z)
 rotate_left
 ·rw[aw p,aQ (by grind)];grind [bv]
 rw[ax p,aM (by grind)];refine bB (O e B) ?_;rw[List.foldl_append,am2,List.foldl_nil];have K:∀a∈(L e).rows,a∈d:=λa o=>(by have:=z.child A J I ap (PE.2 ⟨B,p⟩) o;grind);have d1:=dl e;have f8:=cv e;generalize(hp l e t).foldl (λm e=>m.plus (L e)) (oi A l L t)=m at*;have F:=z.w e B;generalize L e=j at*;have f9:j.rows.length<=100:=(by have:=F.nd.length_le_of_subset (l₂:=d) K;omega);have H:ak (fL j).1=(j.rows.length:Z):=(by rw[a5];exact b4 _ (hV _));refine bF (P:=λk=>k=(([],((0:Z),([],()))),(cO d,(q,(lP d (λa b=>az ((m.plus j).s a b)),()))),())) ?_ (by grind [bv]);have co:(λa b=>az ((m.plus j).s a b))=λa b=>if a∈j.rows/\b∈j.rows then az (gO (m.s a b) (j.s a b)) else az (m.s a b):=by funext a b;show az (if _ then _ else _)=_;grind
 rw[co,<-V3 (l:=j.rows) (f:=λa b=>az (gO (m.s a b) (j.s a b))) (g:=λa b=>az (m.s a b))];generalize cs:(λa b=>az (gO (m.s a b) (j.s a b)))=C;generalize c2:(λa b=>az (m.s a b))=D;refine bQ j.rows.length (λa k=>k=((a:Z),([],((0:Z),([],()))),(cO d,(q,(lP d (kQ j.rows C D a 0),()))),fL j,())) ?_ ?_ ?_
 ·rw[V7];rfl
 rotate_left
 ·rintro _ rfl;dsimp only;rw[H,aM (aC (aa:¬(j.rows.length:Z)<(j.rows.length:Z)))];grind [bv]
 rintro a _ o rfl;dsimp only;rw[H,aQ (aJ (aa:(a:Z)<(j.rows.length:Z))),ba aa];refine bF (P:=λk=>k=(([],((0:Z),([],()))),(cO d,(q,(lP d (kQ j.rows C D a j.rows.length),()))),fL j,())) ?_ (by grind [bv,V6]);refine bQ j.rows.length (λb k=>k=((b:Z),([],((0:Z),([],()))),(cO d,(q,(lP d (kQ j.rows C D a b),()))),fL j,())) rfl ?_ ?_
 rotate_left
 ·rintro _ rfl;dsimp only;rw[H,aM (aC (aa:¬(j.rows.length:Z)<(j.rows.length:Z)))];grind [bv]
 rintro b _ u rfl;dsimp only;rw[H,aQ (aJ (aa:(b:Z)<(j.rows.length:Z))),ba aa];have a0:=b5 o;have a1:=b5 u;obtain⟨d4,d5,d6,_⟩:=Br (l:=d) aa j.rows[a];obtain⟨d3,rfl,Q⟩:=d6 (K _ a0);obtain⟨d4,d8,d9,_⟩:=Br (l:=d) aa j.rows[b];obtain⟨k,rfl,R⟩:=d9 (K _ a1);have f6:=(ak2.1 Q).1;have f7:=(ak2.1 R).1;obtain⟨d7,ek,gi,eS⟩:=afi (kQ j.rows C D a b) Q R;have bl:=afk ad (kQ j.rows C D a b) Q R (C j.rows[a] j.rows[b]) ek;rw[<-V4 o u] at bl;rw[V5 F.nd o u] at eS;have f2:(lP d (kQ j.rows C D a b)).length=d.length:=afj _ _;have an:=fB (n:=(lP d (kQ j.rows C D a b)).length) (i:=d3) aa;have fT:=fB (n:=d7.length) (i:=k) aa;obtain⟨gf,gc,ge⟩:=xY (x:=j) (b0 o) (b0 u);have ex:=BB (d1 j.rows[a] j.rows[b]) (F.okd _ a0 _ a1);subst cs c2;refine bB (A9 o) (bB d5 (bB (A9 u) (bB d8 (bB an (bB an ?_)))));simp_all [bv,ir,bB,bM]
end
end
theorem Jy {c:Type} {p:c->bA} {d:c}:∀{e:bn c},d∈e.takeWhile p->p d=bp
 |[],a=>by cases a
 |b::e,a=>by
  rw[List.takeWhile_cons] at a;split at a
  ·rcases fG.1 a with rfl|a
   ·omega
   exact Jy a
  grind
def nJ (a:X->X) (c:X) (d:ajZ):ajZ:=d.takeWhile (λb=>bu (a b<a c))++c::d.dropWhile (λb=>bu (a b<a c))
def me (a:X->X) (b:ajZ):ajZ:=b.foldl (λd c=>nJ a c d) []
abbrev ih:=ajZ×(X->Z)
def aR.eH (a:aR):bn ih:=a.l.map λb=>(a.rows,b)
def lH (b:ih->aj0) (a:bn ih):aj0:=(bL (a.length+1)).map λc=>(((a.take c).flatMap b).length:Z)
def gx (a:X->X) (b:ih):aj0:=(me a b.1).map λc=>(a c:Z)
def ku (b:X->X) (a:ih):aj0:=(me b a.1).map a.2
def p3 (c:aj0) (a:bn aR) (del:Z):cL:=
 ((
  a.flatMap aR.aP).map (λb=>c.getD b 0),(a.map (λe=>(e.aP.length:Z)),(a.flatMap (·.d),
  (lH (gx λb=>(a.flatMap aR.aP).idxOf b) (a.flatMap aR.eH),((a.flatMap aR.eH).flatMap (gx λb=>(a.flatMap aR.aP).idxOf b),((a.flatMap aR.eH).flatMap (ku λb=>(a.flatMap aR.aP).idxOf b),(del,())))))))
theorem Vt (b:ih->aj0) (a:bn ih) (c:ih):lH b (a++[c])=lH b a++[(((a++[c]).flatMap b).length:Z)]:=by
 unfold lH;rw[hW,qC,j5,j4];congr 1
 ·grind [akt]
 grind
theorem XS (a:X->X) (c:X) (b:ajZ):(nJ a c b).length=b.length+1:=by unfold nJ;have e:=b4 cA (Cp (p:=λd=>bu (a d<a c)) (l:=b));grind
def SH (c:X->X):∀(b a:ajZ),(b.foldl (λa p=>nJ c p a) a).length=a.length+b.length
 |[],a=>rfl
 |p::b,a=>by rw[am2,SH c b,XS,jf];omega
theorem BV (b:X->X) (a:ajZ):(me b a).length=a.length:=by unfold me;rw[SH,pF,mW]
theorem aeU (b:X->X) (c:a<e.length):me b (e.take (a+1))=nJ b e[a] (me b (e.take a)):=by grind [aj5,b0,me]
theorem W1 (c:ih->bn g) {a:bn ih} (d:∀b∈a,(c b).length<=100):(a.flatMap c).length<=100*a.length:=by
 induction a with
 |nil=>grind
 |cons b a e=>
  grind
theorem ac4 (a:X->X) (c:ajZ) (b:X) (O:c.length<=1000) (d:cL) (f:aG) (g:cL) (k:aG):(loop (σ:=qN) (ρ:=qN) (λ(h,r,n,m,j,s,_)=>
 bC (α:=(cL×aG×cL×aG×aG×bt)⊕(qN⊕qN)) (
  bif bu (h<ak j)==bp then rd j h λI=>
  bif bu (I<(a b:Z)) then
 Y (.inl (r,n,m,j,s,())) else
 Y (.inr (.inr (h,r,n,m,j,s,()))) else Y (.inr (.inr (h,r,n,m,j,s,())))) λq=>match q with
 |.inl (G,u,t,E,H,_)=>(
 Y (.inl (aH h,G,u,t,E,H,())))
 |.inr F=>Y F) (0,d,f,g,c.map (λb=>(a b:Z)),k,()))=Y (((c.takeWhile λd=>bu (a d<a b)).length:Z),d,f,g,c.map (λb=>(a b:Z)),k,()):=by
 refine bN.1 ?_;generalize A:c.takeWhile (λd=>bu (a d<a b))=e;have M:e.length<=c.length:=(by grind [apl]);have D:=Cp (p:=λd=>bu (a d<a b)) (l:=c);rw[A] at D;have o:(c.map (λb=>(a b:Z))).length=c.length:=eM _;refine bQ e.length (λi q=>q=((i:Z),d,f,g,c.map (λb=>(a b:Z)),k,())) rfl ?_ ?_
 ·rintro i _ N rfl;dsimp only;have B:i<c.length:=aa;have x:a (c[i]'B)<a b:=by
   have z:e[i]∈c.takeWhile (λd=>bu (a d<a b)):=(by grind);have L:=Jy z;grind
  refine bB (y:=.inl (d,f,g,c.map (λb=>(a b:Z)),k,())) ?_ ?_
  ·rw[a5,o,aQ (by grind)];simp_all [fB,aI,ir,jI,bk,aQ,aJ,rd]
  grind [bv,ba]
 rintro _ rfl;dsimp only;refine bB (y:=.inr (.inr ((e.length:Z),d,f,g,c.map (λb=>(a b:Z)),k,()))) ?_ (bv.2 bo);rw[a5,o];by_cases w:e.length<c.length
 ·rw[aQ (by grind)];unfold rd;rw[o,fB w,aI,ir (v:=(a c[e.length]:Z)) (by grind),aI,aM (aC ?_)];intro K;have C:c.dropWhile (λd=>bu (a d<a b))≠[]:=λJ=>by
   grind
  have x:=apm (λd=>bu (a d<a b)) C;grind
 grind
theorem OZ (a:X->X) (c:X) (b:ajZ) (e:X->g):((([]:bn g)++(((b.map e).take (b.takeWhile λd=>bu (a d<a c)).length).drop 0))++[e c])++(((b.map e).take (b.map e).length).drop (b.takeWhile λd=>bu (a d<a c)).length)=(nJ a c b).map e:=by have f:=Cp (p:=λd=>bu (a d<a c)) (l:=b);rw[hm,mT,jh,<-an5,<-List.map_drop];grind [List.take_left,List.drop_left,akZ,decide,nJ]
theorem af7 (c:X->Z) (f:a<b) (e:Z) (d:aj0->bw g):wr (aF b c) (a:Z) e d=d (aF b (eI c a e)):=by simp_all [cN,fB,aI,ir,j9,hI,wr]
def adM (c:X->Z) (d:a<b) (e:Z->bw g):rd (aF b c) (a:Z) e=e (c a):=by unfold rd;rw[cN,fB d,aI,ir (j9 d),aI]
theorem XP {B:ajZ} (c:e.Nodup) (b:e=p++a::B):e.idxOf a=p.length:=by grind
def SD (a b:X) (e:a<=b):((Y 0).bind λc=>(fY (a:Z)).bind λd=>(gZ c d b).bind λ_=>(oI b).map λ_=>(c,d))=Y (0,a):=by rw[aI,Fq,aI,rv ⟨c5 _,e⟩];rfl
def SE (b a:X) (e:b<=a):((fY (b:Z)).bind λc=>(Y a).bind λd=>(gZ c d a).bind λ_=>(oI a).map λ_=>(c,d))=Y (b,a):=by rw[Fq,aI,aI,rv ⟨e,bd _⟩];rfl
theorem Ry {a:bn aR} (f:∀b∈a,wT e b):a.length<=(a.flatMap aR.aP).length/\(a.flatMap aR.d).length<=3*a.length/\(a.flatMap aR.eH).length=(a.flatMap aR.aP).length:=by
 induction a with
 |nil=>grind
 |cons b a h=>
  obtain⟨i,j,k⟩:=h λg o=>f g (by grind);have c:=f b ac;have l:=c.at1;have m:=c.dl;have n:b.eH.length=b.aP.length:=(by unfold aR.eH;rw[eM,c.len]);grind
theorem Gl (c:aR->bn g) {b:bn aR} (d:a<b.length):(b.take (a+1)).flatMap c=(b.take a).flatMap c++c b[a]:=by grind [aj5,b0]
def Iy (c:aR->bn g) {b:bn aR} (d:a<b.length):b.flatMap c=(b.take a).flatMap c++(c b[a]++(b.drop (a+1)).flatMap c):=by
 conv=>lhs;rw[<-jK (a+1) b]
 rw[n2,Gl c d,k6]
theorem adG (bl:c.length=a) (fp:a<=100) {f:bn aR} (E:(f.flatMap aR.aP).Perm (bL a)) (y:∀b∈f,wT (bL a) b) (del:Z):Ei (c,f.map jm,del,())=Y (p3 c f del,()):=by
 obtain⟨f3,f4,f5⟩:=Ry y;have d1:(f.flatMap aR.aP).length=a:=(by rw[E.length_eq,amW]);have T:(f.flatMap aR.aP).Nodup:=E.nodup_iff.2 amY;have J:∀e,e∈f.flatMap aR.aP↔e<a:=λe=>(by rw[E.mem_iff,apn]);have C:ak (f.map jm)=(f.length:Z):=(by grind);have L:∀i,(Q:i<f.length)->aj (f.map jm) (i:Z)=Y (jm f[i]):=λi Q=>(by grind [iy,b0]);unfold Ei p3;refine bN.1 ?_;dsimp only;generalize I:f.flatMap aR.aP=m at*;rw[show ak c=(a:Z) by rw[a5,bl],iP aa,bM];refine bF (P:=λb=>b=(([],([],([],([],([],([],((0:Z),()))))))),aF a (λe=>(m.idxOf e:Z)),(m.map (λe=>c.getD e 0),(f.map (λb=>(b.aP.length:Z)),(f.flatMap (·.d),([0],(([]:aG),(([]:aG),(del,()))))))),())) ?_ ?_
 ·refine bQ f.length (λi b=>b=((i:Z),([],([],([],([],([],([],((0:Z),()))))))),aF a (λe=>if e∈(f.take i).flatMap aR.aP then(m.idxOf e:Z) else 0),(((f.take i).flatMap aR.aP).map (λe=>c.getD e 0),((f.take i).map (λb=>(b.aP.length:Z)),((f.take i).flatMap (·.d),([0],(([]:aG),(([]:aG),(del,()))))))),())) ?_ ?_ ?_
  ·grind [jY,eD]
  rotate_left
  ·rintro _ rfl;dsimp only;rw[C,aM (aC (aa:¬(f.length:Z)<(f.length:Z))),cy];refine bv.2 ?_;have:(aF a λe=>if e∈f.flatMap aR.aP then(m.idxOf e:Z) else 0)=aF a λe=>(m.idxOf e:Z):=eD λe N=>by
    rw[I,ax ((J e).2 N)]
   grind
  rintro i _ q rfl;dsimp only;rw[C,aQ (aJ (aa:(i:Z)<(f.length:Z))),ba aa];have w:=y _ (b5 q);have ci:=Iy aR.aP q;have fT:=Iy aR.d q;rw[I] at ci;have n:=L i q;have F:=Gl aR.aP q;have V:=Gl aR.d q;have a3:(f.take (i+1)).map (λb=>(b.aP.length:Z))=(f.take i).map (λb=>(b.aP.length:Z))++[(f[i].aP.length:Z)]:=(by grind [aj5,b0]);have f1:(f.take i).length<=f.length:=(by grind);generalize f[i]=b at*;generalize d2:(f.take i).flatMap aR.aP=k at*;have d3:k.length+b.aP.length<=a:=(by grind);refine bF (P:=λs=>s=(([],([],([],([],([],([],((0:Z),()))))))),aF a (λe=>if e∈k++b.aP then(m.idxOf e:Z) else 0),((k++b.aP).map (λe=>c.getD e 0),((f.take i).map (λb=>(b.aP.length:Z)),((f.take i).flatMap (·.d),([0],(([]:aG),(([]:aG),(del,()))))))),())) ?_ ?_
  ·refine bQ b.aP.length (λg s=>s=((g:Z),([],([],([],([],([],([],((0:Z),()))))))),aF a (λe=>if e∈k++b.aP.take g then(m.idxOf e:Z) else 0),((k++b.aP.take g).map (λe=>c.getD e 0),((f.take i).map (λb=>(b.aP.length:Z)),((f.take i).flatMap (·.d),([0],(([]:aG),(([]:aG),(del,()))))))),())) ?_ ?_ ?_
   ·simp_all
   ·rintro g _ M rfl;dsimp only;refine bB n ?_;have t:ak (jm b).1=(b.aP.length:Z):=(by rw[a5];exact b4 _ (hV _));rw[t,aQ (aJ (aa:(g:Z)<(b.aP.length:Z))),ba aa];have K:aj (jm b).1 (g:Z)=Y ((b.aP[g]:X):Z):=A9 M;have bx:b.aP[g]<a:=(J _).1 (by grind);have a1:m.idxOf b.aP[g]=(k++b.aP.take g).length:=by
     refine XP T (B:=b.aP.drop (g+1)++(f.drop (i+1)).flatMap aR.aP) ?_;grind [akZ,alu,alO]
    refine bB n (bB K ?_);rw[af7 _ bx];refine bB n (bB K ?_);refine bB (fR aa) ?_;have eq:(k++b.aP.take g).length<=a:=(by grind);rw[eC (by grind),aI];refine bv.2 ?_;have ao:k++b.aP.take (g+1)=(k++b.aP.take g)++[b.aP[g]]:=(by simp_all);have cv:(aF a (eI (λe=>if e∈k++b.aP.take g then(m.idxOf e:Z) else 0) b.aP[g] (ak ((k++b.aP.take g).map λe=>c.getD e 0))))=aF a λe=>if e∈k++b.aP.take (g+1) then(m.idxOf e:Z) else 0:=by
     refine eD λe N=>?_;rw[ao];by_cases H:e=b.aP[g]
     ·subst H;rw[g9,ax (lD _ (fg.2 bo)),a5,eM,a1]
     rw[hL _ _ H];have:e∈(k++b.aP.take g)++[b.aP[g]]↔e∈k++b.aP.take g:=(by grind);simp_all
    grind
   rintro _ rfl;dsimp only;refine bB n ?_;have t:ak (jm b).1=(b.aP.length:Z):=(by rw[a5];exact b4 _ (hV _));rw[t,aM (aC (aa:¬(b.aP.length:Z)<(b.aP.length:Z))),cy];grind [bv]
  rintro _ rfl;dsimp only;have d9:((f.take i).flatMap aR.d).length+b.d.length<=3*f.length:=(by grind);refine bB n ?_;rw[eC (by grind),bM];refine bB n ?_;rw[eC (by show((f.take i).flatMap aR.d).length+b.d.length<=_;omega),bM];refine bv.2 ?_;have t:ak (jm b).1=(b.aP.length:Z):=(by rw[a5];exact b4 _ (hV _));rw[F,V,a3,t];rfl
 rintro _ rfl;dsimp only;generalize ek:(λe=>m.idxOf e)=h at*;have am:(λe=>(m.idxOf e:Z))=λe=>(h e:Z):=(by grind);rw[am];have ce:∀b∈f,b.rows.length<=100:=λb w=>(by have:=(y b w).nd.length_le_of_subset (y b w).sub;grind);have U:∀r:bn ih,(∀v∈r,v.1.length<=100)->r.length<=100->(r.flatMap (gx h)).length<=10000/\(r.flatMap (ku h)).length<=10000:=λr c1 c2=>(by grind [W1,b9,BV,ku,gx]);have d7:∀v∈f.flatMap aR.eH,v.1.length<=100:=λv A=>(by obtain⟨b,w,A⟩:=amd.1 A;obtain⟨j,_,rfl⟩:=apg.1 A;grind);generalize d0:m.map (λe=>c.getD e 0)=z;generalize d4:f.map (λb=>(b.aP.length:Z))=gk;generalize ds:f.flatMap (·.d)=x;refine bF (P:=λb=>b=(([],([],([],([],([],([],((0:Z),()))))))),(z,(gk,(x,(lH (gx h) (f.flatMap aR.eH),((f.flatMap aR.eH).flatMap (gx h),((f.flatMap aR.eH).flatMap (ku h),(del,()))))))),())) ?_ (by grind [bv]);refine bQ f.length (λi b=>b=((i:Z),([],([],([],([],([],([],((0:Z),()))))))),aF a (λe=>(h e:Z)),(z,(gk,(x,(lH (gx h) ((f.take i).flatMap aR.eH),(((f.take i).flatMap aR.eH).flatMap (gx h),(((f.take i).flatMap aR.eH).flatMap (ku h),(del,()))))))),())) rfl ?_ ?_
 rotate_left
 ·rintro _ rfl;dsimp only;rw[C,aM (aC (aa:¬(f.length:Z)<(f.length:Z))),cy];grind [bv]
 rintro i _ q rfl;dsimp only;rw[C,aQ (aJ (aa:(i:Z)<(f.length:Z))),ba aa];have w:=y _ (b5 q);have n:=L i q;have F:=Gl aR.eH q;have fz:=Iy aR.eH q;have fs:=ce _ (b5 q);rw[F];generalize f[i]=b at*;generalize dg:(f.take i).flatMap aR.eH=p at*;have dl:p.length+b.eH.length<=100:=(by grind);have d8:∀g,b.eH.take g=(b.l.take g).map λj=>(b.rows,j):=λg=>(by grind [an5,aR.eH]);have d6:b.eH.length=b.l.length:=(by grind [b9,aR.eH]);have fr:=w.len;refine bF (P:=λs=>s=(([],([],([],([],([],([],((0:Z),()))))))),aF a (λe=>(h e:Z)),(z,(gk,(x,(lH (gx h) (p++b.eH),((p++b.eH).flatMap (gx h),((p++b.eH).flatMap (ku h),(del,()))))))),())) ?_ (by grind [bv]);refine bQ b.aP.length (λg s=>s=((g:Z),([],([],([],([],([],([],((0:Z),()))))))),aF a (λe=>(h e:Z)),(z,(gk,(x,(lH (gx h) (p++b.eH.take g),((p++b.eH.take g).flatMap (gx h),((p++b.eH.take g).flatMap (ku h),(del,()))))))),())) ?_ ?_ ?_
 ·grind
 rotate_left
 ·rintro _ rfl;dsimp only;refine bB n ?_;have t:ak (jm b).1=(b.aP.length:Z):=(by rw[a5];exact b4 _ (hV _));rw[t,aM (aC (aa:¬(b.aP.length:Z)<(b.aP.length:Z))),ck aa];grind [bv]
 rintro g _ M rfl;dsimp only;refine bB n ?_;have t:ak (jm b).1=(b.aP.length:Z):=(by rw[a5];exact b4 _ (hV _));rw[t,aQ (aJ (aa:(g:Z)<(b.aP.length:Z))),ba aa];have em:g<b.l.length:=aa;have a4:p++b.eH.take (g+1)=(p++b.eH.take g)++[(b.rows,b.l[g])]:=(by grind [b0,aj5,akZ,aR.eH]);have ap:aj (jm b).2.2.2.1 (g:Z)=Y (b.rows.map b.l[g]):=(by rw[iy];show(b.l.map λj=>b.rows.map j)[g]?=_;grind);rw[a4];have S:∀v∈p++b.eH.take g,v.1.length<=100:=λv A=>(by grind);have R:(p++b.eH.take g).length<=100:=(by grind);obtain⟨co,cs⟩:=U _ S R;generalize p++b.eH.take g=r at*;generalize b.l[g]=j at*;have O:ak (jm b).2.2.1=(b.rows.length:Z):=(by rw[a5];exact b4 _ (hV _));generalize ad:((z,(gk,(x,(lH (gx h) r,(r.flatMap (gx h),(r.flatMap (ku h),(del,()))))))):cL)=G;refine bF (P:=λs=>s=(([],([],([],([],([],([],((0:Z),()))))))),aF a (λe=>(h e:Z)),G,gx h (b.rows,j),ku h (b.rows,j),())) ?_ ?_
 ·refine bQ b.rows.length (λo s=>s=((o:Z),([],([],([],([],([],([],((0:Z),()))))))),aF a (λe=>(h e:Z)),G,(me h (b.rows.take o)).map (λe=>(h e:Z)),(me h (b.rows.take o)).map j,())) rfl ?_ ?_
  rotate_left
  ·rintro _ rfl;dsimp only;refine bB n ?_;rw[O,aM (aC (aa:¬(b.rows.length:Z)<(b.rows.length:Z))),cy];exact bv.2 bo
  rintro o _ D rfl;dsimp only;refine bB n ?_;rw[O,aQ (aJ (aa:(o:Z)<(b.rows.length:Z))),ba aa];have av:aj (jm b).2.2.1 (o:Z)=Y ((b.rows[o]:X):Z):=A9 D;have a0:b.rows[o]<a:=apn.1 (w.sub _ (b5 D));have an:aj (b.rows.map j) (o:Z)=Y (j b.rows[o]):=(by grind [iy,b0]);refine bB n (bB av ?_);rw[adM _ a0];have ft:(me h (b.rows.take o)).length<=100:=(by grind [BV,aki]);rw[aeU h D];generalize me h (b.rows.take o)=u at*;generalize b.rows[o]=e at*;have d5:(u.takeWhile λj=>bu (h j<h e)).length<=u.length:=(apl _).length_le;refine bB (ac4 h u e aa _ _ _ _) ?_;dsimp only;have ex:(u.map λe=>(h e:Z)).length=u.length:=b9 _;have fn:(u.map j).length=u.length:=b9 _;rw[<-OZ h e u j,<-OZ h e u λe=>(h e:Z)];refine bB (SD _ _ aa) ?_;dsimp only;rw[eC (by grind),bM,eC (by grind),bM];refine bB (SE _ _ aa) ?_;dsimp only;rw[eC (by grind),bM];refine bB (SD _ _ aa) ?_;dsimp only;rw[eC (by grind),bM];refine bB n (bB ap (bB an ?_));rw[eC (by grind),bM];refine bB (SE _ _ aa) ?_;dsimp only;rw[eC (by grind),bM];grind [bv]
 rintro _ rfl;subst ad;dsimp only;have el:(gx h (b.rows,j)).length=b.rows.length:=(by grind [b9,BV,gx]);have f2:(ku h (b.rows,j)).length=b.rows.length:=(by grind [b9,BV,ku]);have f0:(lH (gx h) r).length=r.length+1:=(by grind [b9,amW,lH]);rw[eC aa,bM,eC aa,bM,eC (by grind),bM];simp_all [Vt,a5,List.flatMap_append,bv,ao,ku,gx]
theorem OY (c:X->X) (a:X) (b:ajZ):(nJ c a b).Perm (a::b):=by grind [apo,nJ]
theorem SI (c:X->X):∀(b a:ajZ),(b.foldl (λa p=>nJ c p a) a).Perm (b++a)
 |[],a=>amU _
 |p::b,a=>by rw[am2];refine(SI c b _).trans ?_;grind [List.perm_middle,amx,OY]
def Gh (b:X->X) (a:ajZ):(me b a).Perm a:=by have:=SI b a [];rwa[pB] at this
theorem XT (j:e.Pairwise λb c=>y b<y c) (n:∀b∈e,y b≠y a):(nJ y a e).Pairwise λb c=>y b<y c:=by
 unfold nJ;have k:∀b∈e.takeWhile (λb=>bu (y b<y a)),y b<y a:=λb d=>alz (Jy (p:=λb=>bu (y b<y a)) d);have l:∀b∈e.dropWhile (λb=>bu (y b<y a)),y a<y b:=by
  intro b d;have i:e.dropWhile (λb=>bu (y b<y a))≠[]:=List.ne_nil_of_mem d;have h:=apm (λb=>bu (y b<y a)) i;rw[anL] at h;have m:(e.dropWhile λb=>bu (y b<y a)).Pairwise λb c=>y b<y c:=j.sublist (apq _);have o:∀c∈e.dropWhile (λb=>bu (y b<y a)),c∈e:=λc g=>(apq _).subset g;generalize e.dropWhile (λb=>bu (y b<y a))=f at*;cases f with
  |nil=>cases d
  |cons c f=>
   grind [alR]
 grind [alR,apo]
theorem SJ {b:X->X}:∀{e d:ajZ},d.Pairwise (λa c=>b a<b c)->(∀a∈d,∀c∈e,b a≠b c)->e.Pairwise (λa c=>b a≠b c)->(e.foldl (λd p=>nJ b p d) d).Pairwise λa c=>b a<b c
 |[],d,f,_,_=>f
 |p::e,d,f,i,g=>by rw[am2];rw[nm] at g;refine SJ (XT f λa h=>i a h p ac) (λa h c j=>?_) g.2;grind [OY]
section
theorem We:sF ([az (bj l),az (bj d),az (bj v)],())=Y (az (kw [l,d,v]),()):=by unfold sF;dsimp only;refine af (y:=az (bj l)) rfl (af (y:=az (bj v)) rfl (af (q8 (gj _) (gj _)) (af (y:=az (bj d)) rfl (af (y:=az (bj d)) rfl (af (q8 (gj _) (gj _)) (af (Ih (na _ _) (na _ _)) ?_))))));rfl
section
variable {R:ajZ} {A:X} {Jh B:ajW} {E:X->X->ik} {x:a7} {c:X}
end
end
def ja:cL:=([],([],([],([],([],([],(0,())))))))
def ow (a:bn a7):X:=(a.map a7.full).sum
def s4 (c:X->X->ajU) (d:aj0) (a:bn df):cL×Z×bt:=match ka c a a.length with
 |none=>(ja,233,())
 |some b=>(p3 d b.2 (ow b.1:Z),0,())
def Oa {a:X->X->ajU} {b:bn df} {c:X} (e:ka a b c=bq):∀d,ka a b (c+d)=bq
 |0=>e
 |d+1=>by show(ka a b (c+d)).bind _=bq;rw[Oa e d];rfl
theorem V9 (a:bn a7) (b:a7):ow (a++[b])=ow a+b.full:=by grind [ow]
theorem V8 {n:X} {L:bn a7} (c:∀b,b<L.length->(L.getD b iX).full<=n):ow L<=n*L.length:=by
 unfold ow;have:∀a∈L,a.full<=n:=λa d=>(by grind [b0,ale]);clear c
 induction L with
 |nil=>grind
 |cons a L e=>
  grind [amC,Nat.mul_succ]
theorem YV (c:a7->g) {b:bn a7} (e:b.length=a):(bL a).map (λd=>c (b.getD d iX))=b.map c:=by refine il λf=>?_;grind
theorem adn {d:bn df} {e:X->X->ajU} (j:hF k d) (m:k.length=a) (l:∀q r,c8 (e q r)) (K:a<=64) {u:nv} (M:o.length=a) (F:∀q r:X,q<a->r<a->vd (u,o,(q:Z),(r:Z),())=Y (az (e q r),())) (G:xQ (u,o,d,())=Y (0,())):vf (u,o,d,())=Y (s4 e o d):=by
 have V:=Oq j;unfold vf;refine af G ?_;dsimp only;rw[aM (by rfl)];refine bN.1 ?_;refine bF (P:=λh=>(ka e d d.length=bq/\h=.inr (ja,233,()))\/∃b f,ka e d d.length=Y (b,f)/\h=.inl ((ow b:Z),ja,f.map jm,())) ?_ ?_
 ·refine bQ d.length (λg h=>∃b f,ka e d g=Y (b,f)/\h=((ow b:Z),br,(g:Z),ja,b.map fL,f.map jm,())) ⟨[],[],bo,bo⟩ ?_ ?_
  rotate_left
  ·rintro _ ⟨b,f,s,rfl⟩;dsimp only;rw[a5,aM (aC (aa:¬(d.length:Z)<(d.length:Z)))];grind [bv]
  rintro g _ C ⟨b,f,I,rfl⟩;dsimp only;rw[a5,aQ (aJ (aa:(g:Z)<(d.length:Z))),ba aa];obtain⟨y,i⟩:=x1 l j m aa I;have t:=jH.of j m C;have z:=adC j m C i l aa aa F;rw[YV fL y] at z;refine bB z ?_;dsimp only;have ap:=i.ME e l t;have D:=i.zB l t;have an:ka e d (g+1)=(a7.run ((my e d (λc=>b.getD c iX) g).full+1) (my e d (λc=>b.getD c iX) g)).map λh=>(b++[h.1],f++h.2):=(by grind [ka]);have av:=D.full;generalize my e d (λc=>b.getD c iX) g=v at*;have J:ak (fL v).1=(v.rows.length:Z):=(by rw[a5];exact b4 _ (hV _));rw[J,aM (aC (aa:¬(v.rows.length:Z)>64))];have am:f.length<=a:=(by have w:=(Ry i.hu).1;have x:=i.perm.length_eq;rw[akE,amW] at x;have Q:=t.CS;have R:=t.Hn;omega);refine bF (aej D aa (akI _) ja (b.map fL) (pv0:=f.map jm) (by grind)) ?_;rintro h (⟨p,E,N,rfl,a1⟩|⟨N,B⟩)
  ·dsimp only;rw[aM (by rfl),eC (by grind),bM];have A:ka e d (g+1)=Y (b++[p],f++E):=(by grind);obtain⟨S,H⟩:=x1 l j m aa A;have U:=V8 (n:=a) (L:=b) λc T=>(i.Ok aa).1;have a0:p.full<=a:=by
    have:=(H.Ok (c:=g) aa).1;grind
   have ad:a*b.length<=64*64:=np K aa;refine bv.2 ⟨b++[p],f++E,A,?_⟩;rw[V9];have O:au ((ow b:Z)+(fL p).2.1)=((ow b+p.full:X):Z):=(by show au ((ow b:Z)+(p.full:Z))=_;grind [cD]);grind
  obtain⟨a3,_⟩:=h;dsimp only at B;subst B;dsimp only;rw[aQ (by rfl)];refine bv.2 (.inl ⟨?_,bo⟩);have w:ka e d (g+1)=bq:=(by grind);have x:=Oa w (d.length-(g+1));grind
 rintro h (⟨s,rfl⟩|⟨b,f,s,rfl⟩)
 ·unfold s4;grind [bv]
 dsimp only;unfold s4;rw[s];obtain⟨y,i⟩:=x1 l j m (cd _) s;refine bB (adG M aa (i.all j m) i.hu _) ?_;grind [bv]
section
section
variable {l:bn df} {n t:X} {L:X->a7} {A:X->X->ajU}
theorem Xb (g:l.length<=1000) (f:∀d∈l,d.2.2.1.length<=64):DF (l,(),())=Y (br,()):=by
 have c:DH (l,(),())=Y (-1,()):=by
  unfold DH;refine bN.1 ?_;dsimp only;refine bF (P:=λb=>b=.inl ()) ?_ (by grind [bv]);refine bQ l.length (λa b=>b=((a:Z),())) rfl ?_ ?_
  ·rintro a _ c rfl;dsimp only;rw[a5,aQ (aJ (aa:(a:Z)<(l.length:Z))),ba aa];refine bB (y:=l[a]) (by rw[iy,b0 c]) ?_;have e:Dm (l[a],())=Y (br,()):=by
    grind [a5,aC,b5,Dm]
   refine bB e ?_;dsimp only;rw[bR];grind [bv]
  rintro _ rfl;dsimp only;rw[a5,aM (aC (aa:¬(l.length:Z)<(l.length:Z)))];grind [bv]
 unfold DF;grind
end
end
section
def Gf (c:X->X->bA) (e d a b:X):bA:=c a b||(bu (a=e)&&bu (b=d))
theorem N6 {n:X}:aF b (eI (λc=>aF n (i c)) a (aF n (eI (i a) f bp)))=aF b (λc=>aF n (Gf i a f c)):=
 eD λc _=>by grind [hL,eD,g9,Gf]
def lJ (a:X->X) (b:X):df:=((a b:Z),(a (b+1):Z),[],-1,())
structure nZ (G:eA) (n j F:X) (c:X->X) (T:X->X->bA):Prop where
 z:c 0=0
 e:c F=j
 m:∀f,f<F->c f<c (f+1)
 t:∀f i,f<F->i<n->(T f i=bp↔∃m,c f<=m/\m<c (f+1)/\(i:Z)∈gW G m)
theorem Ze (e:∀d,d<a->y d<y (d+1)):∀c b,c<b->b<=a->y c<y b:=by
 intro c b f
 induction b with
 |zero=>omega
 |succ b g=>
  grind
theorem Pj (d:∀c,c<a->y c<y (c+1)):∀b,b<=a->y 0+b<=y b:=by
 intro b
 induction b with
 |zero=>omega
 |succ b e=>
  grind
section
variable {G:eA} {n:X} (D:G.length=n) (B:fa G) (H:n<=7) {A:aj0} (C:A.length<=9223372036854775807)
include D B H C
theorem VZ:ae (loop (σ:=(Z×iI×bn gp×bt)) (ρ:=kr) (λ(k,M,H,_)=>
 bif bu (k<ak (aF n (gW G))) then
 bC (α:=kr) (
 bC (α:=kr) (
 bC (α:=(bA×iI×bn gp×bt)) (bif (k==0)==br then(u6 (A,au (900+k),())).bind λ(ds,_)=>
 (eJ bE ds 7).bind λd2=>
 (iR d2 3).bind λd3=>
 Y (bu (d3>0),M,H,()) else Y (bp,M,H,())) λ(d0,N,I,_)=>
  bif d0 then
 (bh (N.length+([(k,(aH k,(([]:bg),((-1:Z),()))))]).length)).bind λ_=>
 (fj (ak (aF n (gW G))) (ak (aF n (gW G)))).bind λa0=>
 (bh (I.length+([bJ a0 br]).length)).bind λ_=>
 Y ((N++[(k,(aH k,(([]:bg),((-1:Z),()))))]),(I++[bJ a0 br]),()) else
 Y (N,I,())) λ(D,bl,_)=>
 (bf D.length (au (ak D-1))).bind λV=>
 (a8 D V λQ=>Y (D.set V (Q.1,(aH k,Q.2.2)))).bind λd7=>
 (loop (σ:=(Z×iI×bn gp×bt)) (ρ:=kr) (λ(L,av,x,_)=>
 (aj (aF n (gW G)) k).bind λd4=>
  bif bu (L<ak d4) then
 (bf x.length (au (ak D-1))).bind λK=>
 (aj (aF n (gW G)) k).bind λd5=>
 (aj d5 L).bind λd6=>
 ((a8 x K λa3=>Y a3).bind λa4=>bf a4.length d6).bind λam=>
 (a8 x K λR=>(a8 R am λ_=>Y (R.set am bp)).map λd8=>x.set K d8).bind λd9=>
 Y (.inl (aH L,av,d9,())) else
 Y (.inr (av,x,()))) (0,d7,bl,())).bind λ(c2,bx,_)=>
 Y (c2,bx,())) λ(dg,ce,_)=>
 Y (.inl (aH k,dg,ce,())) else
 Y (.inr (M,H,()))) (0,[],[],())) (λdl=>∃f h i,nZ G n n f h i/\dl=(aF f (lJ h),aF f (λa=>aF n (i a)),())):=by
 refine bQ n (λc O=>∃f h i,nZ G n c f h i/\O=((c:Z),aF f (lJ h),aF f (λa=>aF n (i a)),())) ⟨0,λ_=>0,λ_ _=>br,⟨bo,bo,λa u=>absurd u (zk _),λa g u=>absurd u (zk _)⟩,bo⟩ ?_ ?_
 ·rintro c _ J ⟨f,h,i,j,rfl⟩;have eq:=Pj j.m f (cd _);have ex:=j.z;have fn:=j.e;dsimp only;rw[a5,cN,aQ (aJ (aa:(c:Z)<(n:Z))),ba aa];refine bF (P:=λs=>∃(b:X) (d:X->X) (l:X->X->bA),d 0=0/\(∀a,a<b->d a<d (a+1))/\d b<=c/\b<=c/\(∀a g,a<b+1->g<n->(l a g=bp↔∃r,d a<=r/\r<eI d (b+1) (c+1) (a+1)/\(g:Z)∈gW G r))/\s=(aF (b+1) (lJ (eI d (b+1) (c+1))),aF (b+1) (λa=>aF n (l a)),())) ?_ ?_
  ·refine bF (P:=λs=>∃(b:X) (d:X->X) (l:X->X->bA) (F:Z),d 0=0/\(∀a,a<b->d a<d (a+1))/\d b<=c/\b<=c/\(∀a g,a<b+1->g<n->(l a g=bp↔∃r,d a<=r/\r<eI d (b+1) c (a+1)/\(g:Z)∈gW G r))/\s=(aF (b+1) (eI (lJ d) b ((d b:Z),F,[],-1,())),aF (b+1) (λa=>aF n (l a)),())) ?_ ?_
   ·refine bF (P:=λs=>∃E:bA,s=(E,aF f (lJ h),aF f (λa=>aF n (i a)),())/\(E=br->0<c)) ?_ ?_
    ·rw[gh];by_cases o:c=0
     ·rw[aM (by simp[o])];grind [bv]
     rw[aQ (by simp[o])];refine bF (Lx A C _) ?_;rintro⟨d1,_⟩ cv;dsimp only at cv|-;obtain⟨a1,c1⟩:∃a1,eJ bE d1 7=some a1:=⟨_,cc ab⟩;refine bB c1 ?_;unfold iR;rw[cc ab,bM];grind [bv]
    rintro _ ⟨E,rfl,ci⟩;dsimp only;cases E with
    |true=>
     rw[bH,eC (by grind [cN]),aI];refine bB (iP aa) ?_;rw[eC (by grind [cN]),aI];refine bv.2 ⟨f,h,(λa g=>if a<f then i a g else br),((c+1:X):Z),j.z,j.m,aa,aa,?_,?_⟩
     ·intro a g v q;dsimp only;by_cases o:a<f
      ·rw[ax o,hL _ _ aa];exact j.t a g o q
      obtain rfl:a=f:=aa;rw[aw o,g9];grind
     have ao:aF f (lJ h)++[((c:Z),((c+1:X):Z),([]:aj0),(-1:Z),())]=aF (f+1) (eI (lJ h) f ((h f:Z),((c+1:X):Z),[],-1,())):=(by grind [eD,hL,ri,g9]);have ek:aF f (λa=>aF n (i a))++[bJ n br]=aF (f+1) (λa=>aF n (λg=>if a<f then i a g else br)):=(by simp_all [eD,ax,wP,akT,ri,jY]);grind
    |false=>
     have fr:=ci bo;rw[bR];obtain⟨b,rfl⟩:∃b,f=b+1:=⟨f-1,by
      grind⟩
     have fs:=j.m b aa;refine bv.2 ⟨b,h,i,(c:Z),j.z,λa v=>j.m a aa,aa,aa,?_,?_⟩
     ·intro a g v q;rw[j.t a g v q];grind [hL,g9]
     grind [eD,g9,hL,lJ]
   rintro _ ⟨b,d,l,F,T,U,ad,an,ap,rfl⟩;dsimp only;rw[a5,cN,show au (((b+1:X):Z)-1)=(b:Z) by rw[(aa:((b+1:X):Z)-1=(b:Z)),cD aa aa]];refine bB (fB (akI b)) ?_;rw[gP (akI b),g9,hI];refine bB bo ?_;have ao:aF (b+1) (eI (eI (lJ d) b ((d b:Z),F,[],-1,())) b ((d b:Z),((c+1:X):Z),[],-1,()))=aF (b+1) (lJ (eI d (b+1) (c+1))):=eD λa v=>by
    by_cases o:a=b
    ·simp_all [g9,hL,lJ]
    grind [hL,lJ]
   dsimp only;rw[ao];have co:∀p,(u:p<(gW G c).length)->∃g:X,(gW G c)[p]=(g:Z)/\g<n:=λp u=>(by obtain⟨g,el,em,_⟩:=Ni B (b5 u);grind);have fp:(gW G c).length<=n:=(by grind [VJ]);refine bF (P:=λs=>s=(aF (b+1) (lJ (eI d (b+1) (c+1))),aF (b+1) (λa=>aF n (λw=>l a w||(bu (a=b)&&bu ((w:Z)∈gW G c)))),())) ?_ ?_
   ·refine bQ (gW G c).length (λp O=>O=((p:Z),aF (b+1) (lJ (eI d (b+1) (c+1))),aF (b+1) (λa=>aF n (λw=>l a w||(bu (a=b)&&bu ((w:Z)∈(gW G c).take p)))),())) ?_ ?_ ?_
    ·simp
    ·rintro p _ S rfl;dsimp only;refine bB (vy J) ?_;rw[a5,aQ (aJ (aa:(p:Z)<((gW G c).length:Z))),cN];refine bB (fB (akI b)) ?_;refine bB (vy J) (bB (eR S) ?_);obtain⟨g,q,cs⟩:=co p S;rw[q,gP (akI b)];refine bB (y:=g) (by grind [fB,cN]) ?_;rw[gP (akI b),gP cs,hI,al9,hI,N6,ba aa];refine bB bo (bv.2 ?_);congr 3;refine eD λa _=>eD λw _=>?_;grind [aj5,b0,Gf]
    rintro _ rfl;dsimp only;refine bB (vy J) ?_;rw[a5,aM (aC (aa:¬(((gW G c).length:X):Z)<((gW G c).length:Z))),cy];grind [bv]
   rintro _ rfl;dsimp only;refine bv.2 ⟨b,d,_,T,U,ad,an,?_,bo⟩;intro a g v q;rw[ao6,ap a g v q];by_cases o:a=b
   ·subst o;rw[g9,g9];grind
   grind [hL]
  rintro _ ⟨b,d,l,T,U,ad,an,ap,rfl⟩;dsimp only;refine bv.2 ⟨b+1,eI d (b+1) (c+1),l,⟨?_,g9 _ _ _,?_,?_⟩,bo⟩
  ·grind [hL]
  ·grind [hL,g9]
  grind [hL]
 rintro _ ⟨f,h,i,j,rfl⟩;dsimp only;rw[a5,cN,aM (aC (aa:¬((n:Z)<(n:Z))))];grind [bv]
end
end
section
theorem afL (a:X->g) (b:X):eI a b (a b)=a:=by grind [eI]
theorem Tb (b:X->g) (a:X) (d c:g):eI (eI b a d) a c=eI b a c:=by grind [eI]
def hD (a:X->X->bA) (b c:X):aj0:=((bL c).filter (a b)).map λd:X=>(d:Z)
theorem Sk:hD i b (a+1)=if i b a=bp then hD i b a++[(a:Z)] else hD i b a:=by grind [akp,hD]
theorem Sj {T:X->X->bA} {f i:X}:(hD T f i).length<=i:=by grind [cu,aku,b9,hD]
def pK (c:X->X) (F:X) (e:X->X->bA) (b g:X) (h:Z):Prop:=
 (h=-1/\∀a,a<g->e b a=bp->a<c (b+1))\/
 (∃a d:X,a<g/\e b a=bp/\c (b+1)<=a/\(∀f,f<a->e b f=bp->f<c (b+1))/\h=(d:Z)/\b<d/\d<F/\c d<=a/\a<c (d+1))
def kX (c:X->X) (b:X->X->bA) (d f:X) (g:Z) (e a:X):bA:=b e a||(bu (g=(e:Z))&&bu (c (d+1)<=a)&&bu (a<f)&&b d a)
structure nl (G:eA) (n F:X) (c:X->X) (wV:X->X->bA) (f:X) (T:X->X->bA) (g:X->df):Prop where
 sub:∀m x,m<F->x<n->wV m x=bp->T m x=bp
 sup:∀m x,m<F->x<n->T m x=bp->c m<=x
 tF:∀m,m<f->∃q,pK c F T m n q/\g m=((c m:Z),(c (m+1):Z),hD T m n,q,())/\∀p:X,q=(p:Z)->∀x,c (m+1)<=x->x<n->T m x=bp->T p x=bp
 new:∀m,f<=m->m<F->g m=lJ c m
section
variable {G:eA} {n F:X} {c:X->X} {wV:X->X->bA} (C:G.length=n) (B:fa G) (D:n<=7) (A:nZ G n n F c wV)
include C B D A
theorem nZ.y7:F<=n:=by have:=Pj A.m F (bd _);have:=A.e;omega
theorem nZ.le (f:b<=a) (e:a<=F):c b<=c a:=by
 rcases cR b a with d|d
 ·exact Nat.le_of_lt (Ze A.m b a d e)
 grind
theorem nZ.own (g:a<n):∃b,b<F/\c b<=a/\a<c (b+1):=by
 have h:∀d,d<=F->a<c d->∃b,b<d/\c b<=a/\a<c (b+1):=by
  intro d
  induction d with
  |zero=>intro _ f;rw[A.z] at f;omega
  |succ d i=>
   grind
 exact h F (bd _) (by rw[A.e];exact g)
theorem nZ.sup (e:a<F) (f:b<n) (d:wV a b=bp):c a<=b:=by obtain⟨j,g,h,i⟩:=(A.t a b e f).1 d;grind [Ni]
theorem nZ.diag (g:a<F) (d:c a<=b) (f:b<c (a+1)):wV a b=bp:=by have h:=A.le C B D (aa:a+1<=F) (bd _);have i:=A.e;obtain⟨k,j,_⟩:=VI B (aa:b<G.length);exact(A.t a b g aa).2 ⟨b,d,f,by grind⟩
theorem acQ {T:X->X->bA} (ad:a<F) (G:b<n) (av:c (a+1)<=b) {g:X->df} {has:bn gp} (z:∀d,d<F->(g d).1=(c d:Z)/\(g d).2.1=(c (d+1):Z)):ae (loop (σ:=(Z×iI×bn gp×bt)) (ρ:=kr) (λ(i,f,p,_)=>
 bif bu (i<ak f) then
 bC (α:=kr) (
 bC (α:=(bA×iI×bn gp×bt)) (
 (bf f.length i).bind λH=>
 (a8 f H λw=>Y w.1).bind λO=>
  bif bu ((b:Z)>=O)==bp then(bf f.length i).bind λI=>
 (a8 f I λx=>Y x.2.1).bind λQ=>
 Y (bu ((b:Z)<Q),f,p,()) else Y (br,f,p,())) λ(N,o,r,_)=>
  bif N then
 (bf o.length (a:Z)).bind λt=>
 (a8 o t λk=>Y (o.set t (k.1,(k.2.1,(k.2.2.1,(i,k.2.2.2.2)))))).bind λR=>
 Y (R,r,()) else
 Y (o,r,())) λ(J,y,_)=>
 Y (.inl (aH i,J,y,())) else
 Y (.inr (f,p,()))) (aH (a:Z),aF F g,has,())) (λL=>∃e:X,a<e/\e<F/\c e<=b/\b<c (e+1)/\L=(aF F (eI g a ((g a).1,(g a).2.1,(g a).2.2.1,(e:Z),())),has,())):=by
 have V:=A.y7 C B D;obtain⟨e,K,a0,a1⟩:=A.own C B D G;have am:a<e:=by
  rcases cR a e with h|h
  ·exact h
  have:=A.le C B D (aa:e+1<=a+1) aa;omega
 refine(bQ (F-(a+1)) (λm M=>M=(((a+1+m:X):Z),aF F (if e<a+1+m then eI g a ((g a).1,(g a).2.1,(g a).2.2.1,(e:Z),()) else g),has,())) ?_ ?_ ?_)
 ·rw[ba aa,aw aa]
 ·rintro m _ an rfl;dsimp only;generalize ap:a+1+m=d;have j:d<F:=aa;rw[a5,cN,aQ (aJ (aa:(d:Z)<(F:Z)))];generalize E:(if e<d then eI g a ((g a).1,(g a).2.1,(g a).2.2.1,(e:Z),()) else g)=q;have s:(q d)=g d:=by
   rw[<-E];grind [hL]
  obtain⟨u,v⟩:=z d j;refine bF (P:=λh=>h=(aF F (if e<d+1 then eI g a ((g a).1,(g a).2.1,(g a).2.2.1,(e:Z),()) else g),has,())) ?_ ?_
  ·refine bF (P:=λh=>h=(bu (d=e),aF F q,has,())) ?_ ?_
   ·refine bB (fB j) ?_;rw[gP j,s,u];refine bB bo ?_;by_cases S:c d<=b
    ·rw[aQ (by grind)];refine bB (fB j) ?_;rw[gP j,s,v];refine bB bo (bv.2 ?_);by_cases l:d=e
     ·rw[aJ l,aJ (show(b:Z)<(c (d+1):Z) by grind)]
     have:¬b<c (d+1):=λU=>by
      rcases cR d e with h|h
      ·have:=A.le C B D (aa:d+1<=e) aa;omega
      have:=A.le C B D (aa:e+1<=d) aa;omega
     grind
    rw[aM (by grind),aC (show¬d=e by grind)];grind [bv]
   rintro _ rfl;dsimp only;by_cases l:d=e
   ·rw[aQ (aJ l)];simp_all [bB,bv,gP,hI,ax,fB,cN]
   rw[aM (aC l)];grind [bv]
  grind [ba,bv]
 rintro _ rfl;dsimp only;rw[a5,cN,(aa:a+1+(F-(a+1))=F),aM (aC (aa:¬((F:Z)<(F:Z)))),cc K];grind [bv]
theorem aee {k:X->df} (p:a<F) (R:nl G n F c wV a t k):ae (loop (σ:=(Z×iI×bn gp×bt)) (ρ:=kr) (λ(r,s,v,_)=>
 bif bu (r<ak (aF n (gW G))) then
 bC (α:=kr) (
 (bf v.length (a:Z)).bind λco=>
 ((a8 v co λd0=>Y d0).bind λd1=>bf d1.length r).bind λf1=>
 (a8 v co λd2=>a8 d2 f1 λd3=>Y d3).bind λhi=>
  bif !hi then
 Y (s,v,()) else
 (bf s.length (a:Z)).bind λcs=>
 (a8 s cs λd4=>Y d4.2.2.1).bind λgo=>
 (bh (go.length+([r]).length)).bind λ_=>
 (bf s.length (a:Z)).bind λU=>
  bif bI cs U&&bp then
 (a8 s U λd5=>Y d5.2.2.1).bind λgs=>
 (a8 s U λam=>Y (s.set U (am.1,(am.2.1,((gs++[r]),am.2.2.2))))).bind λE=>
 bC (α:=kr) (
 bC (α:=(bA×iI×bn gp×bt)) (
 (bf E.length (a:Z)).bind λf2=>
 (a8 E f2 λd6=>Y d6.2.1).bind λhr=>
  bif bu (r>=hr)==bp then(bf E.length (a:Z)).bind λf3=>
 (a8 E f3 λd7=>Y d7.2.2.2.1).bind λhs=>
 Y (bu (hs<0),E,v,()) else Y (br,E,v,())) λ(gi,c1,a3,_)=>
  bif gi then
 (loop (σ:=(Z×iI×bn gp×bt)) (ρ:=kr) (λ(H,u,ap,_)=>
  bif bu (H<ak u) then
 bC (α:=kr) (
 bC (α:=(bA×iI×bn gp×bt)) (
 (bf u.length H).bind λf4=>
 (a8 u f4 λd8=>Y d8.1).bind λhv=>
  bif bu (r>=hv)==bp then(bf u.length H).bind λf5=>
 (a8 u f5 λd9=>Y d9.2.1).bind λhw=>
 Y (bu (r<hw),u,ap,()) else Y (br,u,ap,())) λ(gl,V,a4,_)=>
  bif gl then
 (bf V.length (a:Z)).bind λcv=>
 (a8 V cv λQ=>Y (V.set cv (Q.1,(Q.2.1,(Q.2.2.1,(H,Q.2.2.2.2)))))).bind λid=>
 Y (id,a4,()) else
 Y (V,a4,())) λ(f8,fn,_)=>
 Y (.inl (aH H,f8,fn,())) else
 Y (.inr (u,ap,()))) (aH (a:Z),c1,a3,())).bind λ(f6,eq,_)=>
 Y (f6,eq,()) else
 Y (c1,a3,())) λ(z,L,_)=>
 (bf z.length (a:Z)).bind λfT=>
 (a8 z fT λc2=>Y c2.2.1).bind λgt=>
  bif bu (r>=gt) then
 (bf z.length (a:Z)).bind λf0=>
 (a8 z f0 λdg=>Y dg.2.2.2.1).bind λhc=>
 (bf L.length hc).bind λa0=>
 ((a8 L a0 λdl=>Y dl).bind λds=>bf ds.length r).bind λci=>
 (a8 L a0 λa1=>(a8 a1 ci λ_=>Y (a1.set ci bp)).map λib=>L.set a0 ib).bind λic=>
 Y (z,ic,()) else
 Y (z,L,()) else bq) λ(f7,ex,_)=>
 Y (.inl (aH r,f7,ex,())) else
 Y (.inr (s,v,()))) ((c a:Z),aF F k,aF F (λa=>aF n (t a)),())) (λx=>∃h,pK c F t a n h/\x=(aF F (eI k a ((c a:Z),(c (a+1):Z),hD t a n,h,())),aF F (λd=>aF n (kX c t a n h d)),())):=by
 have ix:=A.y7 C B D;have i2:=A.le C B D (aa:a+1<=F) (bd _);have i1:=A.e;have kd:=A.m a p;have fs:k a=lJ c a:=R.new a (bd _) p;have i3:∀d,d<F->(k d).1=(c d:Z)/\(k d).2.1=(c (d+1):Z):=λd bl=>by
  rcases cR d a with q|q
  ·obtain⟨h,_,K,_⟩:=R.tF d q;grind
  rw[R.new d q bl];exact⟨bo,bo⟩
 refine bQ (n-c a) (λw gf=>∃h,pK c F t a (c a+w) h/\gf=(((c a+w:X):Z),aF F (eI k a ((c a:Z),(c (a+1):Z),hD t a (c a+w),h,())),aF F (λd=>aF n (kX c t a (c a+w) h d)),())) ?_ ?_ ?_
 ·have ao:hD t a (c a)=[]:=by
   unfold hD;rw[amP.2 λj S q=>?_]
   ·rfl
   have J:=jJ.1 S;have:=R.sup a j p aa q;omega
  refine⟨-1,.inl ⟨bo,λj S q=>?_⟩,?_⟩
  ·omega
  rw[mV,ao];congr 2
  ·have:eI k a ((c a:Z),(c (a+1):Z),([]:aj0),(-1:Z),())=k:=by
    rw[show((c a:Z),(c (a+1):Z),([]:aj0),(-1:Z),())=k a from fs.symm,afL]
   grind
  simp_all [eD,aC,kX]
 ·rintro w _ jp ⟨h,M,rfl⟩;dsimp only;generalize i8:c a+w=b at*;have av:b<n:=aa;rw[a5,cN,aQ (aJ (aa:(b:Z)<(n:Z))),(aa:c a+(w+1)=b+1)];have ft:kX c t a b h a b=t a b:=by
   grind [aC,kX]
  refine bF (P:=λx=>∃o,pK c F t a (b+1) o/\x=(aF F (eI k a ((c a:Z),(c (a+1):Z),hD t a (b+1),o,())),aF F (λd=>aF n (kX c t a (b+1) o d)),())) ?_ ?_
  ·refine bB (fB (by grind [cN])) ?_;rw[gP p];refine bB (y:=b) (by grind [fB,cN]) ?_;rw[gP p,gP av,ft];refine bB bo ?_;cases an:t a b with
   |false=>
    rw[aQ (by rfl)];refine bv.2 ⟨h,?_,?_⟩
    ·rcases M with⟨ay,o⟩|⟨j,l,ay,o⟩
     ·refine .inl ⟨ay,λj S q=>?_⟩;grind
     exact .inr ⟨j,l,aa,o⟩
    rw[Sk,an,aw ab];congr 2;refine eD λd _=>eD λj _=>?_;grind [aJ,aC,kX]
   |true=>
    rw[aM (by rfl)];refine bB (fB (by grind [cN])) ?_;rw[gP p,g9];refine bB bo ?_;have lb:=Sj (T:=t) (f:=a) (i:=b);rw[eC (by grind),bM];refine bB (fB (by grind [cN])) ?_;rw[aQ (by simp_all),gP p,g9];refine bB bo ?_;rw[gP p,g9,hI,Tb];refine bB bo ?_;have fz:hD t a b++[(b:Z)]=hD t a (b+1):=(by rw[Sk,cc an]);dsimp only;rw[fz];refine bF (P:=λx=>∃o,x=(aF F (eI k a ((c a:Z),(c (a+1):Z),hD t a (b+1),o,())),aF F (λd=>aF n (kX c t a b h d)),())/\((b<c (a+1)/\o=h)\/(c (a+1)<=b/\∃l:X,o=(l:Z)/\l<F/\(h=o\/(h=-1/\∀j,j<b->t a j=bp->j<c (a+1)))))/\pK c F t a (b+1) o) ?_ ?_
    ·refine bF (P:=λx=>∃O:bA,x=(O,aF F (eI k a ((c a:Z),(c (a+1):Z),hD t a (b+1),h,())),aF F (λd=>aF n (kX c t a b h d)),())/\(O=bp↔c (a+1)<=b/\h<0)) ?_ ?_
     ·refine bB (fB (by grind [cN])) ?_;rw[gP p,g9];refine bB bo ?_;dsimp only;by_cases I:c (a+1)<=b
      ·rw[aQ (by grind)];grind [bB,bv,gP,g9,fB,cN]
      rw[aM (by grind)];grind [bv]
     rintro _ ⟨O,rfl,fp⟩;dsimp only;cases O with
     |true=>
      obtain⟨ad,ii⟩:=fp.1 bo;rw[bH];have ce:h=-1/\∀j,j<b->t a j=bp->j<c (a+1):=by
       rcases M with q|⟨j,l,J,K,ek,el,em,_⟩
       ·exact q
       omega
      refine bF (acQ (T:=t) C B D A p av ad (g:=eI k a ((c a:Z),(c (a+1):Z),hD t a (b+1),h,())) (has:=aF F (λd=>aF n (kX c t a b h d))) (λd bl=>?_)) ?_
      ·grind [hL,g9]
      rintro _ ⟨l,f9,N,gc,ge,rfl⟩;dsimp only;refine bv.2 ⟨(l:Z),?_,.inr ⟨ad,l,bo,N,.inr ce⟩,.inr ⟨b,l,aa,an,ad,ce.2,bo,f9,N,gc,ge⟩⟩;rw[g9,Tb]
     |false=>
      rw[bR];refine bv.2 ⟨h,bo,?_,?_⟩
      ·rcases cR b (c (a+1)) with I|I
       ·omega
       refine .inr ⟨I,?_⟩;rcases M with q|⟨j,l,J,K,ek,el,em,io,is,_⟩
       ·grind
       grind
      rcases M with⟨J,K⟩|⟨j,l,J,K⟩
      ·refine .inl ⟨J,λj S i0=>?_⟩;grind
      exact .inr ⟨j,l,aa,K⟩
    rintro _ ⟨o,rfl,fr,bx⟩;dsimp only;refine bB (fB (by grind [cN])) ?_;rw[gP p,g9];refine bB bo ?_;dsimp only;rcases fr with⟨I,rfl⟩|⟨I,l,rfl,N,kg⟩
    ·rw[aM (aC (aa:¬(b:Z)>=(c (a+1):Z)))];refine bv.2 ⟨o,bx,?_⟩;congr 2;refine eD λd _=>eD λj _=>?_;grind [aC,aJ,kX]
    rw[aQ (aJ (aa:(b:Z)>=(c (a+1):Z)))];refine bB (fB (by grind [cN])) ?_;rw[gP p,g9];refine bB bo ?_;dsimp only;refine bB (fB (by grind [cN])) ?_;rw[gP N];refine bB (y:=b) (by grind [fB,cN]) ?_;rw[gP N,gP av,hI,al9,hI,N6];refine bB bo (bv.2 ⟨(l:Z),bx,?_⟩);congr 2;refine eD λd _=>eD λj _=>?_;grind [Gf,kX]
  grind [ba,bv]
 rintro _ ⟨h,M,rfl⟩;dsimp only;rw[(aa:c a+(n-c a)=n)] at*;rw[a5,cN,aM (aC (aa:¬((n:Z)<(n:Z))))];grind [bv]
end
end
section
theorem pK.congr {c:X->X} {F:X} (e:i a=t a) (f:pK c F i a b d):pK c F t a b d:=by simp_all [pK]
theorem Si (c:i a=t a):hD i a b=hD t a b:=by grind [hD]
section
variable {G:eA} {n F:X} {c:X->X} {A:X->X->bA} (B:G.length=n) (C:fa G) (D:n<=7) (H:nZ G n n F c A)
include B C D H
theorem nl.next {p:X->df} (L:a<F) (j:nl G n F c A a i p) (l:pK c F i a n d):nl G n F c A (a+1) (kX c i a n d) (eI p a ((c a:Z),(c (a+1):Z),hD i a n,d,())):=by
 have h:∀b,b<=a->kX c i a n d b=i b:=λb g=>by
  funext f;unfold kX;have:¬d=(b:Z):=by rcases l with⟨e,_⟩|⟨f,o,_,_,_,_,e,k,_⟩<;>omega
  grind
 have v:∀b f,i b f=bp->kX c i a n d b f=bp:=λb f e=>(by grind [kX]);refine⟨λb f g m e=>v _ _ (j.sub b f g m e),λb f g m e=>?_,λb g=>?_,λb g t=>?_⟩
 ·unfold kX at e;rw[jr] at e;rcases e with e|e
  ·exact j.sup b f g m e
  simp only[cE,akn] at e;obtain⟨⟨⟨q,k⟩,s⟩,K⟩:=e;rcases l with⟨ay,_⟩|⟨M,o,y,z,B,C,D,E,H,I,J⟩
  ·omega
  grind
 ·rcases cR b a with e|e
  ·obtain⟨ay,q,k,s⟩:=j.tF b e;refine⟨ay,q.congr (h b aa).symm,?_,λo u f w x r=>?_⟩
   ·rw[hL _ _ aa,k,Si (h b aa)]
   rw[h b aa] at r;grind
  obtain rfl:b=a:=aa;refine⟨d,l.congr (h b aa).symm,?_,λo u f w x r=>?_⟩
  ·rw[g9,Si (h b aa)]
  grind [aJ,kX]
 rw[hL _ _ aa];exact j.new b aa t
end
theorem IK {j:c0} {aL:c0} {G:eA} {n:X} (B:G.length=n) (C:fa G) (D:n<=7) (r:u.length<=9223372036854775807) (m:sQ (j,())=Y (aL,d,())) (p:sR (aL,())=Y ((k,()),l,())) (q:q2 ((k,()),o,())=Y ((G,()),v,())):ae (xG (j,o,u,())) (λi=>∃F c A b a,nZ G n n F c A/\nl G n F c A F b a/\i=(aF F a,())):=by
 unfold xG;refine bB m (bB p (bB q ?_));refine bB (adT C aa) ?_;dsimp only;rw[B];refine bF (VZ B C D r) ?_;rintro _ ⟨F,c,A,H,rfl⟩;dsimp only;have z:=H.y7 B C D;refine bF (P:=λi=>∃b a,nl G n F c A F b a/\i=(aF F a,())) ?_ ?_
 ·refine bQ F (λe y=>∃b a,nl G n F c A e b a/\y=((e:Z),aF F a,aF F (λe=>aF n (b e)),())) ⟨A,lJ c,⟨λ_ _ _ _ f=>f,λx I s w f=>H.sup B C D s w f,λx f=>absurd f (zk _),λ_ _ _=>rfl⟩,bo⟩ ?_ ?_
  ·rintro e _ g ⟨b,a,h,rfl⟩;dsimp only;rw[a5,cN F,aQ (aJ (aa:(e:Z)<(F:Z)))];refine bB (fB g) ?_;rw[gP g,h.new e (cd _) g];refine bB bo ?_;refine bF (aee B C D H g h) ?_;rintro _ ⟨E,t,rfl⟩;dsimp only;rw[ba aa];exact bv.2 ⟨_,_,h.next B C D H g t,bo⟩
  rintro _ ⟨b,a,h,rfl⟩;dsimp only;rw[a5,cN F,aM (aC (aa:¬((F:Z)<(F:Z))))];grind [bv]
 grind [bv]
theorem WY {P:X->bA} {a b:X} (i:∀c,c<a->P c=br) (j:∀c,a<=c->c<b->P c=bp) (k:a<=b):∀e,(bL (b+e)).filter P=akv a (b-a)++(((bL (b+e)).filter P).filter λc=>bu (b<=c)):=by
 have h:∀d,a+d<=b->(bL (a+d)).filter P=akv a d:=by
  intro d
  induction d with
  |zero=>
   simp_all
  |succ d f=>
   grind [an4,akp,List.filter_cons_of_pos,an6]
 intro e
 induction e with
 |zero=>
  have:=h (b-a) aa;simp_all
 |succ e f=>
  rw[<-wO,j5,r8,r8,<-k6,<-f];congr 1;cases g:P (b+e)<;>simp[g]
end
section
section
variable {G:eA} {n F:X} {c:X->X} {I T:X->X->bA} {g:X->df} (C:G.length=n) (D:fa G) (H:n<=7) (A:nZ G n n F c I) (B:nl G n F c I F T g)
include C D H A B
theorem nl.bm {a:X} (e:a<=F):bm (aF F g) a=c a:=by
 cases a with
 |zero=>exact A.z.symm
 |succ a=>
  obtain⟨f,_,d,_⟩:=B.tF a aa;show(Option.map (λb:df=>b.2.1.toNat) (aF F g)[a]?).getD 0=c (a+1);grind [j9]
theorem Jx {k x:X}:(x:Z)∈hD T k n↔x<n/\T k x=bp:=by unfold hD;grind
theorem Sh (a:X):(hD T a n).Pairwise (· < ·):=by unfold hD;rw[qE];exact(anJ.filter _).imp λb=>by omega
theorem nl.rows (g:f<F):∃i:ajZ,hD T f n=(akv (c f) (c (f+1)-c f)++i).map (λd:X=>(d:Z))/\∀d,d∈i↔c (f+1)<=d/\d<n/\T f d=bp:=by
 have q:=A.le C D H (aa:f+1<=F) (bd _);have r:=A.e;have s:=A.m f g;have:=WY (P:=λd=>bu (d<n)&&T f d) (a:=c f) (b:=c (f+1)) (λd h=>by
  by_cases p:d<n
  ·cases j:T f d with
   |false=>simp
   |true=>have:=B.sup f d g p j;omega
  omega) (λd l o=>by
   show(bu (d<n)&&T f d)=bp;rw[aJ (aa:d<n),B.sub f d g aa (A.diag C D H g l o)];rfl) aa (n-c (f+1))
 rw[(aa:c (f+1)+(n-c (f+1))=n)] at this;have k:(bL n).filter (λd=>bu (d<n)&&T f d)=(bL n).filter (T f):=qz λd h=>(by rw[aJ (jJ.1 h),alZ]);rw[k] at this;refine⟨((bL n).filter (T f)).filter λd=>bu (c (f+1)<=d),?_,?_⟩
 ·grind [hD]
 grind
theorem nl.Xc:hF G (aF F g):=by
 have d2:=A.y7 C D H;have a0:=A.e;have O:∀a,a<=F->jt.bm (aF F g) a=c a:=λa b=>B.bm C D H A b;have N:lR n (aF F g):=by
  refine⟨λa b=>?_,by rw[cN,O F (bd _),a0]⟩;rw[cN] at b;obtain⟨z,_,j,_⟩:=B.tF a b;have s:=A.m a b;have d1:=A.le C D H (aa:a+1<=F) (bd _);refine⟨g a,j9 b,?_,?_,?_⟩
  ·rw[j,O a aa]
  ·grind
  grind
 have bx:∀f,f<F->hC (aF F g) (f:Z)=hD T f n:=λf R=>(by obtain⟨z,_,j,_⟩:=B.tF f R;grind [tK,cN,jX]);have bl:∀{f i:X},f<F->c f<=i->i<c (f+1)->hf (jt.bm (aF F g)) i (aF F g).length=(f:Z):=λ{f i} R d0 j=>(by have s:=cN F g;exact xi (m:=(aF F g).length) (λa b=>⟨b,N.1 a b⟩) aa (by grind) (by grind) _ aa (bd _));unfold hF;rw[C];refine⟨N,λa b=>?_,λa b=>?_,λad d w=>?_⟩
 ·rw[cN] at b;rw[jX];obtain⟨z,_,j,_⟩:=B.tF a b;obtain⟨h,S,p⟩:=B.rows C D H A b;have s:=A.m a b;have a4:(hD T a n).length=(c (a+1)-c a)+h.length:=(by grind);have u:=Sh C D H A B a;have q:((c (a+1):Z)-(c a:Z)).toNat=c (a+1)-c a:=aa;rw[j];unfold jO;dsimp only;rw[q];refine⟨aa,λd _ P l=>⟨λQ=>?_,λv=>?_⟩⟩
  ·simp_all
  dsimp only at v l|-;rw[q] at v;have y:(hD T a n)[d]=((h[d-(c (a+1)-c a)]'(by omega):X):Z):=by simp_all
  have o:=(p _).1 (cG (aa:d-(c (a+1)-c a)<h.length));refine⟨aa,aa,?_⟩;exact(hY.1 u) (d-1) d aa aa aa
 ·rw[cN] at b;rw[jX];obtain⟨z,bs,j,d4⟩:=B.tF a b;obtain⟨h,S,p⟩:=B.rows C D H A b;have s:=A.m a b;have a4:(hD T a n).length=(c (a+1)-c a)+h.length:=(by grind);have u:=Sh C D H A B a;have q:((c (a+1):Z)-(c a:Z)).toNat=c (a+1)-c a:=aa;have y:∀d (l:d<(hD T a n).length),c (a+1)-c a<=d->∃i,i∈h/\(hD T a n)[d]=(i:Z):=λd l v=>by
   refine⟨h[d-(c (a+1)-c a)]'(by omega),cG _,?_⟩
   simp_all
  rw[j];unfold je;dsimp only;rw[q];rcases bs with⟨ay,d7⟩|⟨I,f,K,L,ap,co,rfl,cs,cv,c1,c2⟩
  ·refine .inl ⟨?_,ay⟩;have:h=[]:=apk.2 λi d6=>by
    grind
   grind
  have ci:=(p I).2 ⟨ap,K,L⟩;have d5:0<h.length:=aph ci;refine .inr ⟨aa,?_,λd P l=>?_⟩
  ·obtain⟨J,V,a1⟩:=y (c (a+1)-c a) aa (bd _);obtain⟨dg,dl,ds⟩:=(p J).1 V;have d3:J<=I:=by
    obtain⟨E,ce,U⟩:=hG.1 ((Jx (x:=I) C D H A B (k:=a)).2 ⟨K,L⟩);rcases cR E (c (a+1)-c a) with av|av
    ·simp only[S,j4] at U;rw[List.getElem_append_left (by grind)] at U;grind
    rcases cR (c (a+1)-c a) E with M|M
    ·have:=(hY.1 u) _ E aa ce M;omega
    grind
   grind [akz,cm]
  obtain⟨J,V,a1⟩:=y d l P;grind [Jx]
 intro Q;have a3:ad<n:=(by obtain⟨l,_⟩:=w;omega);have o:d<n:=(by have:=w.lt D;omega);obtain⟨f,r,am,an⟩:=A.own C D H a3;rw[bl r am an,bx f r];refine(Jx C D H A B).2 ⟨o,B.sub f d r o ((A.t f d r o).2 ⟨ad,am,an,vL.2 ⟨aa,.inr ⟨Q,?_⟩⟩⟩)⟩;exact .one w
end
end
end Go.jt
end
