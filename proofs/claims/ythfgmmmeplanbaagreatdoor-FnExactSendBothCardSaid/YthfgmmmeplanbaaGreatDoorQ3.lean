import Derived.Test.YthfgmmmeplanbaaGreatDoorQ2
namespace Go.Proofs.YthfgmmmeplanbaaGreatDoor
open Go.RowKit
set_option linter.unusedVariables false
set_option linter.unusedSimpArgs false
theorem cat_ok {T R X O:Type}{B:X→Option (X ⊕ O)}(l:List T)(e:List R→Nat→X)(g:T→List R)(N c:Nat)(hg:∀v ∈ l,(g v).length≤c)(fin:List R→O)(hend:∀s,B (e s l.length)=some (.inr (fin s)))
  (hstep:∀s i (h:i<l.length),s.length≤N+i*c→B (e s i)=some (.inl (e (s++g l[i]) (i+1)))) (s:List R) (hs:s.length≤N):loopL B (e s 0)=some (fin (s++l.flatMap g)):=by
 have key:∀(k i:Nat) (s:List R),i+k=l.length→s.length≤N+i*c→loopL B (e s i)=some (fin (s++(l.drop i).flatMap g)):=by
  intro k
  induction k with
  |zero=>
   intro i s hi hs
   have:i=l.length:=by omega
   subst this
   rw[loopL_eq,hend]
   simp
  |succ k ih=>
   intro i s hi hs
   have h1:i<l.length:=by omega
   rw[loopL_eq,hstep s i h1 hs]
   simp only
   have hg1:=hg l[i] (List.getElem_mem h1)
   rw[ih (i+1) _ (by omega) (by rw[List.length_append,Nat.add_mul];omega),List.drop_eq_getElem_cons h1]
   simp only[List.flatMap_cons,List.append_assoc]
 have:=key l.length 0 s (by omega) (by omega)
 simpa using this
theorem numF_lt:∀(l:List Int) (n:Int) (M:Nat),(∀b ∈ l,b=0∨b=1)→0≤n→n<M→M*2^l.length≤4611686018427387904→0≤l.foldl (fun n b=>IntKind.i64.wrap (IntKind.i64.wrap (2*n)+b)) n∧l.foldl (fun n b=>IntKind.i64.wrap (IntKind.i64.wrap (2*n)+b)) n<((M*2^l.length:Nat):Int)
 | [],n,M,_,h0,h1,_=>by
   show 0≤n∧n<((M*2^0:Nat):Int)
   rw[Nat.pow_zero,Nat.mul_one]
   exact⟨h0,h1⟩
 |b::l,n,M,hb,h0,h1,hk=>by
  have e:M*2^(l.length+1)=(2*M)*2^l.length:=by rw[Nat.pow_succ,Nat.mul_comm (2^l.length) 2,←Nat.mul_assoc,Nat.mul_comm M 2]
  have hk:M*2^(l.length+1)≤4611686018427387904:=hk
  rw[e]at hk
  have hM:2*M≤(2*M)*2^l.length:=Nat.le_mul_of_pos_right _ (Nat.two_pow_pos _)
  have hb0:=hb b (by simp)
  have w1:IntKind.i64.wrap (2*n)=2*n:=by rw[wrap_i64]<;>omega
  have w2:IntKind.i64.wrap (2*n+b)=2*n+b:=by rw[wrap_i64]<;>omega
  have ih:=numF_lt l (2*n+b) (2*M) (fun c hc=>hb c (by simp[hc])) (by omega) (by omega) hk
  show 0≤l.foldl _ (IntKind.i64.wrap (IntKind.i64.wrap (2*n)+b))∧l.foldl _ (IntKind.i64.wrap (IntKind.i64.wrap (2*n)+b))<((M*2^(l.length+1):Nat):Int)
  rw[w1,w2,e]
  exact ih
theorem byt_in(l:List Int)(h:∀b ∈ l,b=0∨b=1):∀v ∈ byt l,0≤v∧v≤255:=by
 intro v hv
 obtain⟨k,_,rfl⟩:=List.mem_map.1 hv
 have hl:(chunkL l k).length≤8:=by rw[chunkL_length];omega
 have hp:2^(chunkL l k).length≤2^8:=Nat.pow_le_pow_right (by omega) hl
 have:=numF_lt (chunkL l k) 0 1 (fun b hb=>h b (List.mem_of_mem_drop (List.mem_of_mem_take hb))) (by omega) (by omega) (by omega)
 unfold numW
 omega
theorem frame_parts {f:TFrame.T}(h:frameB f=true):inB f.1 0 3=true∧inB f.2.1 0 7=true∧dsizeB f.1 f.2.2.2.1.length=true∧bytesB f.2.2.2.1=true∧((f.1 != (0:Int))=true→stateB f.2.2.1=true):=by
 unfold frameB at h
 simp only[Bool.and_eq_true]at h
 obtain⟨h1,h2,h3,h4,h5⟩:=h
 refine⟨h1,h2,h3,h4,fun hk=> ?_⟩
 have hk0:(f.1==(0:Int))=false:=by simpa using hk
 rw[hk0]at h5
 simp only[Bool.false_eq_true,if_false]at h5
 split at h5
 ·simp only[Bool.and_eq_true]at h5
  exact h5.1
 ·exact h5
theorem body_in {f:TFrame.T}(h:frameB f=true):(∀v ∈ bodyL f,0≤v∧v≤255)∧((bodyL f).length:Int)=bodyN f.1 f.2.2.2.1.length∧(bodyL f).length≤50:=by
 obtain⟨h1,h2,h3,h4,h5⟩:=frame_parts h
 have hd:=frame_len h
 have k1:=in_iff.1 h1
 have k2:=in_iff.1 h2
 obtain⟨(k:Int),(q:Int),st,(d:List Int),⟨⟩⟩:=f
 simp only at h1 h2 h3 h4 h5 hd k1 k2
 have w1:IntKind.i64.wrap (k*64)=k*64:=by rw[wrap_i64]<;>omega
 have w2:IntKind.i64.wrap (q*8)=q*8:=by rw[wrap_i64]<;>omega
 have w3:IntKind.i64.wrap (k*64+q*8)=k*64+q*8:=by rw[wrap_i64]<;>omega
 have hb:∀v ∈ d,0≤v∧v≤255:=by
  unfold bytesB at h4
  simp only[Bool.and_eq_true,List.all_eq_true]at h4
  exact fun v hv=>in_iff.1 (h4.2 v hv)
 have e:bodyL (k,q,st,d,())=([k*64+q*8]++(if k != (0:Int)then byt (stL st)else []))++(if dataB k then(d.length:Int)::d else []):=by
  unfold bodyL
  simp only[w1,w2,w3]
 rw[e]
 refine⟨fun v hv=> ?_, ?_, ?_⟩
 ·simp only[List.mem_append,List.mem_singleton]at hv
  rcases hv with(rfl|hv)|hv
  ·omega
  ·split at hv
   ·rename_i hk
    exact byt_in _ (st_01 st (h5 hk)) v hv
   ·cases hv
  ·split at hv
   ·rcases List.mem_cons.1 hv with rfl|hv
    ·omega
    ·exact hb v hv
   ·cases hv
 ·unfold bodyN
  simp only[List.length_append]
  split<;>split<;>simp[byt_len]<;>omega
 ·simp only[List.length_append]
  split<;>split<;>simp[byt_len]<;>omega
def sealL(f:TFrame.T)(r:Nat)(st:TState.T):List Int:=bodyL f++ [((numberL f.1 (bodyL f) r st / 65536:Nat):Int),((numberL f.1 (bodyL f) r st / 256 % 256:Nat):Int),((numberL f.1 (bodyL f) r st % 256:Nat):Int)]
theorem i_seal_ok(f:TFrame.T)(r:Nat)(st:TState.T)(hf:frameB f=true)(hr:r<16777216)(hst:stateB st=true):i_seal (f,(r:Int),st,())=some (sealL f r st,()):=by
 obtain⟨h1,_,h2⟩:=body_in hf
 have hb:i_bodyOf (f,())=some (bodyL f,()):=i_body (f,()) (by have:=frame_len hf;show f.2.2.2.1.length≤_;omega)
 have hc:=i_check f.1 (bodyL f) r st (by omega) h1 hr hst
 have ht:=i_three (numberL f.1 (bodyL f) r st) (numberL_lt f.1 (bodyL f) r st hr)
 have e0:i_seal (f,(r:Int),st,())=match i_bodyOf (f,())with
  |none=>none
  |some v1=>match i_checkNumber (f.1,v1.1,(r:Int),st,())with
   |none=>none
   |some v2=>match i_threeBytes (v2.1,())with
    |none=>none
    |some v3=>room (v1.1.length+v3.1.length) (some ((v1.1++v3.1),())):=rfl
 rw[e0]
 simp only[hb,hc,ht]
 rw[room_ok (by simp;omega)]
 rfl
theorem s_seal_ok(f:TFrame.T)(r:Nat)(st:TState.T)(hf:frameB f=true)(hr:r<16777216)(hst:stateB st=true):s_l07Seal (f,(r:Int),st,())=some (sealL f r st,()):=by
 obtain⟨h1,_,h2⟩:=body_in hf
 have hb:s_l06Body (f,())=some (bodyL f,()):=s_body (f,()) (by have:=frame_len hf;show f.2.2.2.1.length≤_;omega)
 have hc:=s_check f.1 (bodyL f) r st (by omega) h1 hr hst
 have hn:=numberL_lt f.1 (bodyL f) r st hr
 have ht:=i_three (numberL f.1 (bodyL f) r st) hn
 generalize hq:numberL f.1 (bodyL f) r st=q at hc hn ht
 have e1: [(IntKind.i64.wrap (Int.tdiv (q:Int) (65536:Int))),(Int.tmod (IntKind.i64.wrap (Int.tdiv (q:Int) (256:Int))) (256:Int)),(Int.tmod (q:Int) (256:Int))]= [((q / 65536:Nat):Int),((q / 256 % 256:Nat):Int),((q % 256:Nat):Int)]:=by
  have a1:Int.tdiv (q:Int) 65536=((q / 65536:Nat):Int):=rfl
  have a2:Int.tdiv (q:Int) 256=((q / 256:Nat):Int):=rfl
  have a3:Int.tmod (q:Int) 256=((q % 256:Nat):Int):=rfl
  have b1:IntKind.i64.wrap ((q / 65536:Nat):Int)=((q / 65536:Nat):Int):=by rw[wrap_i64]<;>omega
  have b2:IntKind.i64.wrap ((q / 256:Nat):Int)=((q / 256:Nat):Int):=by rw[wrap_i64]<;>omega
  rw[a1,a2,a3,b1,b2]
  rfl
 have e0:s_l07Seal (f,(r:Int),st,())=match s_l06Body (f,())with
  |none=>none
  |some v1=>match s_l07Number (f.1,v1.1,(r:Int),st,())with
   |none=>none
   |some v2=>room (v1.1.length+ [(IntKind.i64.wrap (Int.tdiv v2.1 (65536:Int))),(Int.tmod (IntKind.i64.wrap (Int.tdiv v2.1 (256:Int))) (256:Int)),(Int.tmod v2.1 (256:Int))].length) (some ((v1.1++ [(IntKind.i64.wrap (Int.tdiv v2.1 (65536:Int))),(Int.tmod (IntKind.i64.wrap (Int.tdiv v2.1 (256:Int))) (256:Int)),(Int.tmod v2.1 (256:Int))]),())):=rfl
 rw[e0]
 simp only[hb,hc,e1]
 rw[room_ok (by simp;omega)]
 unfold sealL
 rw[hq]
theorem seal_in {f:TFrame.T}{r:Nat}{st:TState.T}(hf:frameB f=true)(hr:r<16777216):(∀v ∈ sealL f r st,0≤v∧v≤255)∧((sealL f r st).length:Int)=bodyN f.1 f.2.2.2.1.length+3∧(sealL f r st).length≤53:=by
 obtain⟨h1,h2,h3⟩:=body_in hf
 have hn:=numberL_lt f.1 (bodyL f) r st hr
 unfold sealL
 refine⟨fun v hv=> ?_, ?_, ?_⟩
 ·rcases List.mem_append.1 hv with hv|hv
  ·exact h1 v hv
  ·simp only[List.mem_cons,List.not_mem_nil,or_false]at hv
   rcases hv with rfl|rfl|rfl<;>omega
 ·simp only[List.length_append,List.length_cons,List.length_nil]
  omega
 ·simp only[List.length_append,List.length_cons,List.length_nil]
  omega
def lineL(l:List Int):List Int:=(List.replicate 8 (0:Int)++ [1])++l.flatMap (fun b=>[1,0]++numL b 8)++ [0,1]
theorem line_pre(l:List Int):((List.replicate 8 (0:Int)++ [1])++l.flatMap (fun b=>[1,0]++numL b 8)).length=9+10*l.length:=by
 have:(l.flatMap (fun b=>[1,0]++numL b 8)).length=10*l.length:=by
  induction l with
  |nil=>rfl
  |cons b l ih=>
   rw[List.flatMap_cons,List.length_append,ih]
   simp only[List.length_append,List.length_cons,List.length_nil,num_len]
   omega
 rw[List.length_append,this]
 simp only[List.length_append,List.length_replicate,List.length_cons,List.length_nil]
theorem line_len(l:List Int):(lineL l).length=11+10*l.length:=by
 unfold lineL
 rw[List.length_append,line_pre]
 simp only[List.length_cons,List.length_nil]
 omega
theorem line_01 {l:List Int}(h:∀v ∈ l,0≤v∧v≤255):∀b ∈ lineL l,b=0∨b=1:=by
 intro b hb
 unfold lineL at hb
 simp only[List.mem_append,List.mem_replicate,List.mem_flatMap,List.mem_cons,List.not_mem_nil,or_false]at hb
 rcases hb with((⟨_,rfl⟩|rfl)|⟨v,hv,(rfl|rfl)|hb⟩)|(rfl|rfl)
 ·exact .inl rfl
 ·exact .inr rfl
 ·exact .inr rfl
 ·exact .inl rfl
 ·obtain⟨h0,h1⟩:=h v hv
  obtain⟨n,rfl⟩:=Int.eq_ofNat_of_zero_le h0
  exact num_01 n (by omega) 8 b hb
 ·exact .inl rfl
 ·exact .inr rfl
theorem i_line(l:List Int)(hl:l.length≤1000):i_cellsOf (l,(8:Int),())=some (lineL l,()):=by
 have e:=cat_ok (B:=b_i_cellsOf_3) l (fun s i=>(s,l,(l.length:Int),(i:Int),())) (fun b=>[1,0]++numL b 8) 9 10 (fun v _=>by simp[num_len]) (fun s=>.inl (s,())) (fun s=>by simp only[b_i_cellsOf_3,lt_n]) (fun s i h hs=>by
  have ha:=i_append (s++ [1,0]) l[i] 8 (by omega) (by simp;omega)
  have ha:i_appendNumber (s++ [1,0],l[i],(8:Int),())=_:=ha
  simp only[b_i_cellsOf_3,lt_i h,next_i h (show l.length≤1099511627776 by omega),idx_nat h,onSome]
  rw[room_ok (by simp;omega)]
  simp only[ha,List.append_assoc]) (List.replicate 8 (0:Int)++ [1]) (by simp)
 have e:loopL b_i_cellsOf_3 ((List.replicate (8:Int).toNat (0:Int))++ [1],l,(l.length:Int),(0:Int),())=_:=e
 have hlen:=line_pre l
 unfold i_cellsOf
 simp only[e]
 rw[if_pos (show(0:Int)≤8∧(8:Int)≤8 from⟨by decide,by decide⟩),room_ok (by decide),room_ok (by decide),room_ok (by rw[hlen];show 9+10*l.length+2≤_;omega)]
 rfl
theorem s_line(l:List Int)(hl:l.length≤1000):s_l18Cells (l,(8:Int),())=some (lineL l,()):=by
 have e:=cat_ok (B:=b_s_l18Cells_3) l (fun s i=>(l,s,(i:Int),())) (fun b=>[1,0]++numL b 8) 9 10 (fun v _=>by simp[num_len]) (fun s=>.inl (s,())) (fun s=>by simp only[b_s_l18Cells_3,lt_n]) (fun s i h hs=>by
  have hd:List.drop i (List.take (i+1) l)= [l[i]]:=by
   rw[List.drop_take,Nat.add_sub_cancel_left,List.drop_eq_getElem_cons h]
   rfl
  have hb:=s_bitsOf [l[i]] (by simp)
  have hb1:bitsL [l[i]]=numL l[i] 8:=by simp[bitsL]
  have hbd:bounds l.length (some (.dat (.int .i64) ((i:Nat):Int))) (some (.dat (.int .i64) (((i+1:Nat):Int))))=some (i,i+1):=by
   unfold bounds
   simp[bndOr,optInt]
   omega
  simp only[b_s_l18Cells_3,lt_i h,next_i h (show l.length≤1099511627776 by omega)]
  rw[room_ok (by simp;omega),hbd]
  simp only[onSome,hd,hb,hb1]
  rw[room_ok (by simp[num_len];omega)]
  simp only[List.append_assoc]) (List.replicate 8 (0:Int)++ [1]) (by simp)
 have e:loopL b_s_l18Cells_3 (l,(List.replicate (8:Int).toNat (0:Int))++ [1],(0:Int),())=_:=e
 have hlen:=line_pre l
 unfold s_l18Cells
 simp only[e]
 rw[if_pos (show(0:Int)≤8∧(8:Int)≤8 from⟨by decide,by decide⟩),room_ok (by decide),room_ok (by decide),room_ok (by rw[hlen];show 9+10*l.length+2≤_;omega)]
 rfl
end Go.Proofs.YthfgmmmeplanbaaGreatDoor
namespace Go.Proofs.YthfgmmmeplanbaaGreatDoor
open Go.RowKit
set_option linter.unusedVariables false
set_option linter.unusedSimpArgs false
theorem i_highs_ok(n:Nat)(h:n≤1099511627776):i_highs ((n:Int),())=some (List.replicate n (1:Int),()):=by
 have hr:repF [(1:Int)] (n:Int)=some (List.replicate n 1):=by
  show(if(0:Int)≤(n:Int)∧(n:Int)≤1099511627776 then some (List.replicate ((n:Int)).toNat (1:Int))else none)=_
  rw[if_pos ⟨by omega,by omega⟩,Int.toNat_natCast]
 have hs:slices_Repeat_int64 ([(1:Int)],(n:Int),())=some (List.replicate n (1:Int),()):=by
  unfold slices_Repeat_int64
  simp only[hr,onSome]
 unfold i_highs
 simp only[hs]
theorem s_equalK(x:Int):∀(n:Nat) (acc:List Int),acc.length+n≤1099511627776→loopL b_s_l20Equal_2 ((n:Int),x,acc,())=some (.inl (acc++List.replicate n x,()))
 |0,acc,_=>by
  rw[loopL_eq]
  have hd:decide (((0:Nat):Int)>0)=false:=by decide
  simp only[b_s_l20Equal_2,hd,List.replicate_zero,List.append_nil]
 |n+1,acc,h=>by
  rw[loopL_eq]
  have hd:decide (((n+1:Nat):Int)>0)=true:=decide_eq_true (by omega)
  have hw:IntKind.i64.wrap (((n+1:Nat):Int)-1)=(n:Int):=by rw[wrap_i64]<;>omega
  simp only[b_s_l20Equal_2,hd,hw]
  rw[room_ok (by show acc.length+1≤_;omega)]
  simp only
  rw[s_equalK x n (acc++ [x]) (by simp;omega),List.append_assoc,List.singleton_append,List.replicate_succ]
theorem s_equal(n:Nat)(x:Int)(h:n≤1099511627776):s_l20Equal ((n:Int),x,())=some (List.replicate n x,()):=by
 have e:=s_equalK x n [] (by simp;omega)
 unfold s_l20Equal
 simp only[e,List.nil_append]
theorem i_repK(v:Int)(n:Nat):∀(k i:Nat) (acc:List Int),i+k=n→acc.length+k≤1099511627776→n≤1099511627776→loopL b_i_repeat_2 (acc,v,(n:Int),(i:Int),())=some (.inl (acc++List.replicate k v,()))
 |0,i,acc,hi,_,_=>by
  have hi:i=n:=by omega
  subst hi
  rw[loopL_eq]
  simp only[b_i_repeat_2,lt_n,List.replicate_zero,List.append_nil]
 |k+1,i,acc,hi,h,hn=>by
  have hlt:i<n:=by omega
  rw[loopL_eq]
  simp only[b_i_repeat_2,lt_i hlt,next_i hlt hn]
  rw[room_ok (by show acc.length+1≤_;omega)]
  simp only
  rw[i_repK v n k (i+1) (acc++ [v]) (by omega) (by simp;omega) hn,List.append_assoc,List.singleton_append,List.replicate_succ]
theorem i_rep(acc:List Int)(v:Int)(n:Nat)(h:acc.length+n≤1099511627776):i_repeat (acc,v,(n:Int),())=some (acc++List.replicate n v,()):=by
 have e:=i_repK v n n 0 acc (by omega) h (by omega)
 have e:loopL b_i_repeat_2 (acc,v,(n:Int),(0:Int),())=_:=e
 unfold i_repeat
 simp only[e]
def samplesL(l:List Int):List Int:=l.flatMap fun c=>List.replicate 8 c
theorem samples_len(l:List Int):(samplesL l).length=8*l.length:=by
 unfold samplesL
 induction l with
 |nil=>rfl
 |cons c l ih=>rw[List.flatMap_cons,List.length_append,ih,List.length_replicate,List.length_cons];omega
theorem samples_01 {l:List Int}(h:∀b ∈ l,b=0∨b=1):∀b ∈ samplesL l,b=0∨b=1:=by
 intro b hb
 unfold samplesL at hb
 obtain⟨c,hc,hb⟩:=List.mem_flatMap.1 hb
 rw[(List.mem_replicate.1 hb).2]
 exact h c hc
theorem bits_ofL {l:List Int}(h:∀b ∈ l,b=0∨b=1)(hl:l.length≤8192):bitsB l=true:=by
 unfold bitsB
 simp only[Bool.and_eq_true,List.all_eq_true,decide_eq_true_eq]
 refine⟨by omega,fun v hv=>in_iff.2 ?_⟩
 rcases h v hv with rfl|rfl<;>omega
theorem i_nominal(l:List Int)(h:∀b ∈ l,b=0∨b=1)(hl:l.length≤1024):i_NominalSamples (l,())=some (samplesL l,(0:Int),()):=by
 have hb:=i_bits l (by omega)
 rw[bits_ofL h (by omega)]at hb
 have e:=cat_ok (B:=b_i_NominalSamples_7) l (fun s i=>(s,l,(l.length:Int),(i:Int),())) (fun c=>List.replicate 8 c) 0 8 (fun v _=>by simp) (fun s=>.inl (s,())) (fun s=>by simp only[b_i_NominalSamples_7,lt_n]) (fun s i h hs=>by
  have ha:i_repeat (s,l[i],(8:Int),())=some (s++List.replicate 8 l[i],()):=i_rep s l[i] 8 (by omega)
  simp only[b_i_NominalSamples_7,lt_i h,next_i h (show l.length≤1099511627776 by omega),idx_nat h,onSome,ha]) [] (by simp)
 have e:loopL b_i_NominalSamples_7 ([],l,(l.length:Int),(0:Int),())=_:=e
 have hw:decide (IntKind.i64.wrap ((l.length:Int)*8)>8192)=false:=by
  have:IntKind.i64.wrap ((l.length:Int)*8)=(l.length:Int)*8:=by rw[wrap_i64]<;>omega
  rw[this]
  exact decide_eq_false (by omega)
 unfold i_NominalSamples
 simp only[hb,Bool.not_true,hw,e,List.nil_append]
 rfl
theorem s_stretchK(l w:List Int)(j:Nat)(hj:j<l.length)(hj2:j<w.length)(hw:w[j]=8):∀(k i:Nat) (acc:List Int),i+k=8→acc.length+k≤1099511627776→loopL b_s_l20Stretch_6 (l,w,acc,(j:Int),(i:Int),())=some (.inl (l,w,acc++List.replicate k l[j],(j:Int),()))
 |0,i,acc,hi,_=>by
  have hi:i=8:=by omega
  subst hi
  rw[loopL_eq]
  have hd:decide (((8:Nat):Int)<8)=false:=by decide
  simp only[b_s_l20Stretch_6,idx_nat hj2,onSome,hw,hd,List.replicate_zero,List.append_nil]
 |k+1,i,acc,hi,h=>by
  rw[loopL_eq]
  have hd:decide ((i:Int)<8)=true:=by simp;omega
  have hn:IntKind.i64.wrap ((i:Int)+1)=((i+1:Nat):Int):=by rw[wrap_i64]<;>omega
  simp only[b_s_l20Stretch_6,idx_nat hj2,idx_nat hj,onSome,hw,hd,hn]
  rw[room_ok (by show acc.length+1≤_;omega)]
  simp only
  rw[s_stretchK l w j hj hj2 hw k (i+1) (acc++ [l[j]]) (by omega) (by simp;omega),List.append_assoc,List.singleton_append,List.replicate_succ]
theorem s_nominal(l:List Int)(hl:l.length≤1024):s_l20Nominal (l,())=some (samplesL l,()):=by
 have hq:s_l20Equal ((l.length:Int),(8:Int),())=some (List.replicate l.length (8:Int),()):=s_equal l.length 8 (by omega)
 have e:=cat_ok (B:=b_s_l20Stretch_3) l (fun s i=>(l,List.replicate l.length (8:Int),s,(i:Int),())) (fun c=>List.replicate 8 c) 0 8 (fun v _=>by simp) (fun s=>.inl (s,())) (fun s=>by simp only[b_s_l20Stretch_3,lt_n]) (fun s i h hs=>by
  have ha:loopL b_s_l20Stretch_6 (l,List.replicate l.length (8:Int),s,(i:Int),(0:Int),())=_:=s_stretchK l (List.replicate l.length (8:Int)) i h (by simpa using h) (by simp) 8 0 s (by omega) (by omega)
  simp only[b_s_l20Stretch_3,lt_i h,ha,next_i h (show l.length≤1099511627776 by omega)]) [] (by simp)
 have e:loopL b_s_l20Stretch_3 (l,List.replicate l.length (8:Int),[],(0:Int),())=_:=e
 unfold s_l20Nominal s_l20Stretch
 simp only[hq,e,List.nil_append]
 rfl
noncomputable def sbleB(m:TMedl.T)(st:TState.T)(f:TFrame.T):Bool:=(frameB f&&fitsB (descL m st) f)&&(!(f.1 != (0:Int))||eqT TState f.2.2.1 st)
theorem i_fitsD(d:TDescriptor.T)(f:TFrame.T)(hd:dscB d=true)(hl:f.2.2.2.1.length≤1099511627776):i_FitsDescriptor (d,f,())=some (frameB f&&fitsB d f,()):=by
 have h1:i_IsDescriptor (d,())=some (true,()):=by rw[←hd];exact i_desc (d,())
 have h2:i_IsFrame (f,())=some (frameB f,()):=i_frame (f,()) hl
 have h3:i_fits (d,f,())=some (fitsB d f,()):=i_fitsB (d,f,())
 have e0:i_FitsDescriptor (d,f,())=match i_IsDescriptor (d,())with
  |none=>none
  |some v1=>match v1.1 with
   |true=>match i_IsFrame (f,())with
    |none=>none
    |some v2=>match v2.1 with
     |true=>match i_fits (d,f,())with
      |none=>none
      |some v3=>some (v3.1,())
     |false=>some (false,())
   |false=>some (false,()):=rfl
 rw[e0,h1]
 simp only[h2]
 cases frameB f
 ·rfl
 ·simp only[h3,Bool.true_and]
theorem s_fitsD(d:TDescriptor.T)(f:TFrame.T)(hd:dscB d=true)(hl:f.2.2.2.1.length≤1099511627776):s_FitsDescriptor (d,f,())=some (frameB f&&fitsB d f,()):=by
 have h1:s_IsDescriptor (d,())=some (true,()):=by rw[←hd];exact s_desc (d,())
 have h2:s_IsFrame (f,())=some (frameB f,()):=s_frame (f,()) hl
 cases hf:frameB f with
 |true=>rw[s_fitsB d f hd hf hl,Bool.true_and]
 |false=>
  rw[hf]at h2
  have e0:s_FitsDescriptor (d,f,())=match s_IsDescriptor (d,())with
   |none=>none
   |some v1=>match v1.1 with
    |true=>match s_IsFrame (f,())with
     |none=>none
     |some v2=>match v2.1 with
      |true=>_
      |false=>some (false,())
    |false=>some (false,()):=rfl
  rw[e0,h1]
  simp only[h2]
  rfl
theorem i_sble(m:TMedl.T)(st:TState.T)(f:TFrame.T)(h:medlB m=true)(hb:belongsB m st=true)(hl:f.2.2.2.1.length≤1099511627776):i_isSendable (m,st,f,())=some (sbleB m st f,()):=by
 obtain⟨_,hd,hq⟩:=s_descL m st h hb
 have hf:=i_fitsD (descL m st) f hq hl
 have e0:i_isSendable (m,st,f,())=match i_descriptorFor (m,st,())with
  |none=>none
  |some v1=>match i_FitsDescriptor (v1.1,f,())with
   |none=>none
   |some v2=>match v2.1 with
    |true=>match(!(f.1 != (0:Int)))with
     |true=>some (true,())
     |false=>some ((eqT TState f.2.2.1 st),())
    |false=>some (false,()):=rfl
 rw[e0,hd]
 simp only[hf]
 unfold sbleB
 cases frameB f&&fitsB (descL m st) f<;>cases (!(f.1 != (0:Int)))<;>simp
theorem s_sble(m:TMedl.T)(st:TState.T)(f:TFrame.T)(h:medlB m=true)(hb:belongsB m st=true)(hl:f.2.2.2.1.length≤1099511627776):s_l27Sendable (m,st,f,())=some (sbleB m st f,()):=by
 obtain⟨hd,_,hq⟩:=s_descL m st h hb
 have hf:=s_fitsD (descL m st) f hq hl
 have e0:s_l27Sendable (m,st,f,())=match s_l15Desc (m,st,())with
  |none=>none
  |some v1=>match s_FitsDescriptor (v1.1,f,())with
   |none=>none
   |some v2=>match v2.1 with
    |true=>match(!(f.1 != (0:Int)))with
     |true=>some (true,())
     |false=>some ((eqT TState f.2.2.1 st),())
    |false=>some (false,()):=rfl
 rw[e0,hd]
 simp only[hf]
 unfold sbleB
 cases frameB f&&fitsB (descL m st) f<;>cases (!(f.1 != (0:Int)))<;>simp
noncomputable def scodeN(m:TMedl.T)(st:TState.T)(f:TFrame.T):Int:=match medlB m with
 |false=>1
 |true=>match belongsB m st with
  |false=>2
  |true=>match sbleB m st f with
   |false=>5
   |true=>0
theorem i_scode(m:TMedl.T)(st:TState.T)(f:TFrame.T)(hz:sizesM m)(hl:f.2.2.2.1.length≤1099511627776):i_sendCode (m,st,f,())=some (scodeN m st f,()):=by
 have hM:i_IsMedl (m,())=_:=i_medl m hz
 have e0:i_sendCode (m,st,f,())=match i_lookCode (m,st,())with
  |none=>none
  |some v1=>match(v1.1 != (0:Int))with
   |true=>some (v1.1,())
   |false=>match i_isSendable (m,st,f,())with
    |none=>none
    |some v2=>match(!v2.1)with
     |true=>some ((5:Int),())
     |false=>some ((0:Int),()):=rfl
 have e1:i_lookCode (m,st,())=match i_IsMedl (m,())with
  |none=>none
  |some v1=>match(!v1.1)with
   |true=>some ((1:Int),())
   |false=>match i_belongs (m,st,())with
    |none=>none
    |some v2=>match(!v2.1)with
     |true=>some ((2:Int),())
     |false=>some ((0:Int),()):=rfl
 rw[e0,e1,hM]
 unfold scodeN
 rcases Bool.eq_false_or_eq_true (medlB m)with h1|h1<;>simp only[h1,Bool.not_true,Bool.not_false]
 ·have hB:=i_bel m st h1
  simp only[hB]
  rcases Bool.eq_false_or_eq_true (belongsB m st)with h2|h2<;>simp only[h2,Bool.not_true,Bool.not_false]
  ·have hS:=i_sble m st f h1 h2 hl
   have k0:((0:Int) != 0)=false:=rfl
   simp only[k0,hS]
   cases sbleB m st f<;>rfl
  ·rfl
 ·rfl
theorem s_scode(m:TMedl.T)(st:TState.T)(f:TFrame.T)(hz:sizesM m)(hl:f.2.2.2.1.length≤1099511627776):s_l27Code (m,st,f,())=some (scodeN m st f,()):=by
 have hM:s_IsMedl (m,())=_:=s_medl m hz
 have e0:s_l27Code (m,st,f,())=match s_l15Code (m,st,())with
  |none=>none
  |some v1=>match(v1.1==(0:Int))with
   |true=>match s_l27Sendable (m,st,f,())with
    |none=>none
    |some v2=>match(!v2.1)with
     |true=>some ((5:Int),())
     |false=>some (v1.1,())
   |false=>some (v1.1,()):=rfl
 have e1:s_l15Code (m,st,())=match s_IsMedl (m,())with
  |none=>none
  |some v1=>match(!v1.1)with
   |true=>some ((1:Int),())
   |false=>match s_l15Belongs (m,st,())with
    |none=>none
    |some v2=>match(!v2.1)with
     |true=>some ((2:Int),())
     |false=>some ((0:Int),()):=rfl
 rw[e0,e1,hM]
 unfold scodeN
 rcases Bool.eq_false_or_eq_true (medlB m)with h1|h1<;>simp only[h1,Bool.not_true,Bool.not_false]
 ·have hB:=s_bel m st h1
  simp only[hB]
  rcases Bool.eq_false_or_eq_true (belongsB m st)with h2|h2<;>simp only[h2,Bool.not_true,Bool.not_false]
  ·have hS:=s_sble m st f h1 h2 hl
   have k0:((0:Int)==0)=true:=rfl
   simp only[k0,hS]
   cases sbleB m st f<;>rfl
  ·rfl
 ·rfl
end Go.Proofs.YthfgmmmeplanbaaGreatDoor
namespace Go.Proofs.YthfgmmmeplanbaaGreatDoor
open Go.RowKit
set_option linter.unusedVariables false
set_option linter.unusedSimpArgs false
theorem grow64(n:Nat)(hn:n≤1099511627776):slices_Grow_int64 ((),(n:Int),())=some ([],()):=by
 unfold slices_Grow_int64
 have w0:IntKind.i64.wrap ((0:Int)-0)=0:=by decide
 have w1:IntKind.i64.wrap ((n:Int)-0)=n:=by rw[Int.sub_zero,wrap_i64]<;>omega
 have n0:decide ((n:Int)<0)=false:=by simp
 simp only[w0,w1,n0]
 by_cases h:(n:Int)>0
 ·have b1:bounds 0 none (some (.dat (.int .i64) (0:Int)))=some (0,0):=rfl
  have b2:bounds (List.replicate ((n:Int).toNat) (0:Int)).length none (some (.dat (.int .i64) (0:Int)))=some (0,0):=by
   have hh:(0:Int)≤0∧(0:Int)≤0∧(0:Int)≤((List.replicate ((n:Int).toNat) (0:Int)).length:Int):=⟨by omega,by omega,by omega⟩
   simp only[bounds,bndOr,optInt]
   exact if_pos hh
  have hp:(0:Int)≤(n:Int):=by omega
  simp only[decide_eq_true h,b1,onSome,hp,if_true]
  rw[room_ok (by rw[Int.toNat_natCast];exact hn),b2]
  rfl
 ·simp only[decide_eq_false h]
theorem concat64(a b:List Int)(h:a.length+b.length≤1099511627776):slices_Concat_int64 ([a,b],())=some (a++b,()):=by
 unfold slices_Concat_int64
 have w1:IntKind.i64.wrap ((0:Int)+(a.length:Int))=(a.length:Int):=by rw[Int.zero_add,wrap_i64]<;>omega
 have w2:IntKind.i64.wrap ((a.length:Int)+(b.length:Int))=((a.length+b.length:Nat):Int):=by rw[←Int.natCast_add,wrap_i64]<;>omega
 have n1:decide ((a.length:Int)<0)=false:=by simp
 have n2:decide (((a.length+b.length:Nat):Int)<0)=false:=by simp;omega
 have i0:idx [a,b] (0:Int)=some a:=rfl
 have i1:idx [a,b] (1:Int)=some b:=rfl
 have k1:IntKind.i64.wrap ((0:Int)+1)=1:=by decide
 have k2:IntKind.i64.wrap ((1:Int)+1)=2:=by decide
 have c0:decide ((0:Int)<2)=true:=by decide
 have c1:decide ((1:Int)<2)=true:=by decide
 have c2:decide ((2:Int)<2)=false:=by decide
 have e1:loopL b_slices_Concat_int64_3 ([a,b],(0:Int),[a,b],((2:Nat):Int),(0:Int),())=some (.inl ([a,b],((a.length+b.length:Nat):Int),())):=by
  rw[loopL_eq]
  simp only[b_slices_Concat_int64_3,i0,onSome,w1,n1,k1,c0,show(((2:Nat):Int))=2 from rfl]
  rw[loopL_eq]
  simp only[b_slices_Concat_int64_3,i1,onSome,w2,n2,k2,c1]
  rw[loopL_eq]
  simp only[b_slices_Concat_int64_3,c2]
 have e2:loopL b_slices_Concat_int64_11 ([],[a,b],((2:Nat):Int),(0:Int),())=some (.inl (a++b,())):=by
  rw[loopL_eq]
  simp only[b_slices_Concat_int64_11,i0,onSome,k1,c0,show(((2:Nat):Int))=2 from rfl]
  rw[room_ok (by simp;omega)]
  simp only[List.nil_append]
  rw[loopL_eq]
  simp only[b_slices_Concat_int64_11,i1,onSome,k2,c1]
  rw[room_ok (by omega)]
  simp only
  rw[loopL_eq]
  simp only[b_slices_Concat_int64_11,c2]
 have e1:loopL b_slices_Concat_int64_3 ([a,b],(0:Int),[a,b],(([a,b]:List (List Int)).length:Int),(0:Int),())=_:=e1
 have e2:loopL b_slices_Concat_int64_11 ([],[a,b],(([a,b]:List (List Int)).length:Int),(0:Int),())=_:=e2
 simp only[e1,grow64 _ h,e2]
theorem sble_parts {m:TMedl.T}{st:TState.T}{f:TFrame.T}(h:sbleB m st f=true):frameB f=true∧fitsB (descL m st) f=true:=by
 unfold sbleB at h
 simp only[Bool.and_eq_true]at h
 exact h.1
theorem dur_in {m:TMedl.T}{st:TState.T}{f:TFrame.T}(r:Nat)(hr:r<16777216)(h:medlB m=true)(hb:belongsB m st=true)(hs:sbleB m st f=true):
  ∃D:Nat,(descL m st).2.2.2.1=(D:Int)∧19+10*(sealL f r st).length+12≤D∧D≤1000:=by
 obtain⟨hf,ht⟩:=sble_parts hs
 obtain⟨_,_,hq⟩:=s_descL m st h hb
 obtain⟨_,hl,_⟩:=seal_in (st:=st) hf hr
 generalize descL m st=d at hq ht
 unfold dscB at hq
 unfold fitsB at ht
 simp only[Bool.and_eq_true,beq_iff_eq]at hq ht
 obtain⟨q1,q2,q3,q4,q5⟩:=hq
 obtain⟨t1,t2,t3⟩:=ht
 have hsz:=dsize_in q3
 have hbn:=bodyN_in d.2.1 d.2.2.1 hsz.1 hsz.2
 rw[t1,t2]at hl
 have q5:=in_iff.1 q5
 have hc:cellsN d.2.1 d.2.2.1=11+10*(bodyN d.2.1 d.2.2.1+3):=rfl
 rw[hc]at q5
 generalize (sealL f r st).length=k at hl ⊢
 generalize bodyN d.2.1 d.2.2.1=bn at hl hbn q5
 have hw:IntKind.i64.wrap (11+10*(bn+3)+20)=11+10*(bn+3)+20:=by rw[wrap_i64]<;>omega
 rw[hw]at q5
 generalize d.2.2.2.1=D at q5
 have hD:(0:Int)≤D:=by omega
 obtain⟨D,rfl⟩:=Int.eq_ofNat_of_zero_le hD
 exact⟨D,rfl,by omega,by omega⟩
def cellsM(m:TMedl.T)(st:TState.T)(f:TFrame.T):List Int:=(List.replicate 8 (1:Int)++lineL (sealL f m.1.toNat st))++List.replicate ((descL m st).2.2.2.1.toNat-(19+10*(sealL f m.1.toNat st).length)) 1
theorem scode_0 {m:TMedl.T}{st:TState.T}{f:TFrame.T}(h:scodeN m st f=0):medlB m=true∧belongsB m st=true∧sbleB m st f=true:=by
 unfold scodeN at h
 cases h1:medlB m<;>rw[h1]at h
 ·cases h
 ·cases h2:belongsB m st<;>rw[h2]at h
  ·cases h
  ·cases h3:sbleB m st f<;>rw[h3]at h
   ·cases h
   ·exact⟨rfl,rfl,rfl⟩
theorem bel_state {m:TMedl.T}{st:TState.T}(h:belongsB m st=true):stateB st=true:=by
 unfold belongsB at h
 simp only[Bool.and_eq_true]at h
 exact h.1
theorem cells_in {m:TMedl.T}{st:TState.T}{f:TFrame.T}(h:scodeN m st f=0):(cellsM m st f).length≤1000∧∀b ∈ cellsM m st f,b=0∨b=1:=by
 obtain⟨h1,h2,h3⟩:=scode_0 h
 obtain⟨r,hr,hr2⟩:=medl_id h1
 obtain⟨D,hD,d1,d2⟩:=dur_in r hr2 h1 h2 h3
 obtain⟨s1,_,_⟩:=seal_in (st:=st) (sble_parts h3).1 hr2
 unfold cellsM
 rw[hD,hr,Int.toNat_natCast,Int.toNat_natCast]
 refine⟨?_,fun b hb=> ?_⟩
 ·rw[List.length_append,List.length_append,line_len,List.length_replicate,List.length_replicate]
  omega
 ·simp only[List.mem_append,List.mem_replicate]at hb
  rcases hb with(⟨_,rfl⟩|hb)|⟨_,rfl⟩
  ·exact .inr rfl
  ·exact line_01 s1 b hb
  ·exact .inr rfl
theorem i_slotCells(m:TMedl.T)(st:TState.T)(f:TFrame.T)(hz:sizesM m)(hl:f.2.2.2.1.length≤1099511627776):i_SlotCells (m,st,f,())=some (if scodeN m st f=0 then(cellsM m st f,(0:Int),())else([],scodeN m st f,())):=by
 have hc:=i_scode m st f hz hl
 have e0:i_SlotCells (m,st,f,())=match i_sendCode (m,st,f,())with
  |none=>none
  |some v1=>match(v1.1 != (0:Int))with
   |true=>some ([],v1.1,())
   |false=>match i_highs ((8:Int),())with
    |none=>none
    |some v2=>match i_seal (f,m.1,st,())with
     |none=>none
     |some v3=>match i_cellsOf (v3.1,(8:Int),())with
      |none=>none
      |some v4=>match slices_Concat_int64 ([v2.1,v4.1],())with
       |none=>none
       |some v5=>match i_descriptorFor (m,st,())with
        |none=>none
        |some v6=>match i_highs ((IntKind.i64.wrap (v6.1.2.2.2.1-(v5.1.length:Int))),())with
         |none=>none
         |some v7=>room (v5.1.length+v7.1.length) (some ((v5.1++v7.1),(0:Int),())):=rfl
 rw[e0,hc]
 by_cases h:scodeN m st f=0
 ·obtain⟨h1,h2,h3⟩:=scode_0 h
  obtain⟨r,hr,hr2⟩:=medl_id h1
  obtain⟨D,hD,d1,d2⟩:=dur_in r hr2 h1 h2 h3
  have hf:=(sble_parts h3).1
  obtain⟨s1,_,s2⟩:=seal_in (st:=st) hf hr2
  have k0:(scodeN m st f != 0)=false:=by rw[h];rfl
  have a1:i_highs ((8:Int),())=some (List.replicate 8 (1:Int),()):=i_highs_ok 8 (by omega)
  have a2:i_seal (f,m.1,st,())=some (sealL f r st,()):=by rw[hr];exact i_seal_ok f r st hf hr2 (bel_state h2)
  have a3:=i_line (sealL f r st) (by omega)
  have hll:=line_len (sealL f r st)
  have a4:=concat64 (List.replicate 8 (1:Int)) (lineL (sealL f r st)) (by rw[List.length_replicate];omega)
  obtain⟨_,a5,_⟩:=s_descL m st h1 h2
  have hlen:(List.replicate 8 (1:Int)++lineL (sealL f r st)).length=19+10*(sealL f r st).length:=by rw[List.length_append,List.length_replicate,hll];omega
  have hw:IntKind.i64.wrap ((descL m st).2.2.2.1-(((List.replicate 8 (1:Int)++lineL (sealL f r st)).length:Nat):Int))=((D-(19+10*(sealL f r st).length):Nat):Int):=by
   rw[hlen,hD,wrap_i64]<;>omega
  have a6:=i_highs_ok (D-(19+10*(sealL f r st).length)) (by omega)
  rw[if_pos h]
  simp only[k0,a1,a2,a3,a4,a5]
  have hw':IntKind.i64.wrap ((descL m st).2.2.2.1-((List.replicate 8 (1:Int)++lineL (sealL f r st)).length:Int))=((D-(19+10*(sealL f r st).length):Nat):Int):=hw
  rw[hw']
  simp only[a6]
  rw[room_ok (by rw[hlen,List.length_replicate];omega)]
  unfold cellsM
  rw[hD,hr,Int.toNat_natCast,Int.toNat_natCast]
 ·have k0:(scodeN m st f != 0)=true:=by simpa using h
  rw[if_neg h]
  simp only[k0]
theorem s_slotCells(m:TMedl.T)(st:TState.T)(f:TFrame.T)(hz:sizesM m)(h:scodeN m st f=0):s_l27Cells (m,st,f,())=some (cellsM m st f,()):=by
 obtain⟨h1,h2,h3⟩:=scode_0 h
 obtain⟨r,hr,hr2⟩:=medl_id h1
 obtain⟨D,hD,d1,d2⟩:=dur_in r hr2 h1 h2 h3
 have hf:=(sble_parts h3).1
 obtain⟨s1,_,s2⟩:=seal_in (st:=st) hf hr2
 have a1:s_l20Equal ((8:Int),(1:Int),())=some (List.replicate 8 (1:Int),()):=s_equal 8 1 (by omega)
 have a2:s_l07Seal (f,m.1,st,())=some (sealL f r st,()):=by rw[hr];exact s_seal_ok f r st hf hr2 (bel_state h2)
 have a3:=s_line (sealL f r st) (by omega)
 have hll:=line_len (sealL f r st)
 obtain⟨a5,_,_⟩:=s_descL m st h1 h2
 have hlen:(List.replicate 8 (1:Int)++lineL (sealL f r st)).length=19+10*(sealL f r st).length:=by rw[List.length_append,List.length_replicate,hll];omega
 have hw:IntKind.i64.wrap ((descL m st).2.2.2.1-(((List.replicate 8 (1:Int)++lineL (sealL f r st)).length:Nat):Int))=((D-(19+10*(sealL f r st).length):Nat):Int):=by
  rw[hlen,hD,wrap_i64]<;>omega
 have a6:=s_equal (D-(19+10*(sealL f r st).length)) 1 (by omega)
 have e0:s_l27Cells (m,st,f,())=same (
  match s_l20Equal ((8:Int),(1:Int),())with
  |none=>none
  |some v1=>match s_l07Seal (f,m.1,st,())with
   |none=>none
   |some v2=>match s_l18Cells (v2.1,(8:Int),())with
    |none=>none
    |some v3=>room (v1.1.length+v3.1.length) (
     match s_l15Desc (m,st,())with
     |none=>none
     |some v4=>match s_l20Equal ((IntKind.i64.wrap (v4.1.2.2.2.1-((v1.1++v3.1).length:Int))),(1:Int),())with
      |none=>none
      |some v5=>room ((v1.1++v3.1).length+v5.1.length) (some (((v1.1++v3.1)++v5.1),())))):=rfl
 rw[e0]
 simp only[a1,a2,a3,a5]
 have hw':IntKind.i64.wrap ((descL m st).2.2.2.1-((List.replicate 8 (1:Int)++lineL (sealL f r st)).length:Int))=((D-(19+10*(sealL f r st).length):Nat):Int):=hw
 rw[hw',room_ok (by rw[List.length_replicate,hll];omega)]
 simp only[a6]
 rw[room_ok (by rw[hlen,List.length_replicate];omega)]
 unfold cellsM
 rw[hD,hr,Int.toNat_natCast,Int.toNat_natCast]
 exact same_id _
theorem i_slotS(m:TMedl.T)(st:TState.T)(f:TFrame.T)(hz:sizesM m)(hl:f.2.2.2.1.length≤1099511627776):i_SlotSamples (m,st,f,())=some (if scodeN m st f=0 then(samplesL (cellsM m st f),(0:Int),())else([],scodeN m st f,())):=by
 have hc:=i_slotCells m st f hz hl
 have e0:i_SlotSamples (m,st,f,())=match i_SlotCells (m,st,f,())with
  |none=>none
  |some v1=>match(v1.2.1 != (0:Int))with
   |true=>some ([],v1.2.1,())
   |false=>match i_NominalSamples (v1.1,())with
    |none=>none
    |some v2=>some v2:=rfl
 rw[e0,hc]
 by_cases h:scodeN m st f=0
 ·obtain⟨c1,c2⟩:=cells_in h
  have hn:=i_nominal (cellsM m st f) c2 (by omega)
  simp only[if_pos h,hn]
  rfl
 ·have k0:(scodeN m st f != 0)=true:=by simpa using h
  simp only[if_neg h,k0]
theorem s_slotS(m:TMedl.T)(st:TState.T)(f:TFrame.T)(hz:sizesM m)(hl:f.2.2.2.1.length≤1099511627776):s_SlotSamples (m,st,f,())=some (if scodeN m st f=0 then(samplesL (cellsM m st f),(0:Int),())else([],scodeN m st f,())):=by
 have hc:=s_scode m st f hz hl
 have e0:s_SlotSamples (m,st,f,())=match s_l27Code (m,st,f,())with
  |none=>none
  |some v1=>match(v1.1 != (0:Int))with
   |true=>some ([],v1.1,())
   |false=>match s_l27Cells (m,st,f,())with
    |none=>none
    |some v2=>match s_l20Nominal (v2.1,())with
     |none=>none
     |some v3=>some (v3.1,(0:Int),()):=rfl
 rw[e0,hc]
 by_cases h:scodeN m st f=0
 ·obtain⟨c1,c2⟩:=cells_in h
  have hs:=s_slotCells m st f hz h
  have hn:=s_nominal (cellsM m st f) (by omega)
  have k0:(scodeN m st f != 0)=false:=by rw[h];rfl
  simp only[k0,hs,hn,if_pos h]
 ·have k0:(scodeN m st f != 0)=true:=by simpa using h
  simp only[if_neg h,k0]
end Go.Proofs.YthfgmmmeplanbaaGreatDoor
namespace Go.Proofs.YthfgmmmeplanbaaGreatDoor
open Go.RowKit
set_option linter.unusedVariables false
set_option linter.unusedSimpArgs false
def lenB(k:Int):Bool:=(k != 1)&&(k != 5)
def valB(k:Int):Bool:=(k==4)||(k==6)
def faultB(f:TFault.T):Bool:=inB f.1 1 6&&(inB f.2.1 0 8192&&((if lenB f.1 then inB f.2.2.1 1 8192 else f.2.2.1==(0:Int))&&(if valB f.1 then inB f.2.2.2.1 0 1 else f.2.2.2.1==(0:Int))))
theorem i_hasLen(x):i_hasLength x=some (lenB x.1,()):=by
 unfold i_hasLength lenB
 rcases Bool.eq_false_or_eq_true (x.1 != (1:Int))with h|h<;>simp only[h]<;>rfl
theorem i_hasVal(x):i_hasValue x=some (valB x.1,()):=by
 unfold i_hasValue valB
 rcases Bool.eq_false_or_eq_true (x.1==(4:Int))with h|h<;>simp only[h]<;>rfl
theorem i_faultB(x):i_IsFault x=some (faultB x.1,()):=by
 unfold i_IsFault faultB
 simp only[i_in,i_hasLen,i_hasVal]
 rcases Bool.eq_false_or_eq_true (inB x.1.1 1 6)with h1|h1<;>rcases Bool.eq_false_or_eq_true (inB x.1.2.1 0 8192)with h2|h2<;>rcases Bool.eq_false_or_eq_true (lenB x.1.1)with h3|h3<;>rcases Bool.eq_false_or_eq_true (valB x.1.1)with h4|h4<;>rcases Bool.eq_false_or_eq_true (inB x.1.2.2.1 1 8192)with h5|h5<;>rcases Bool.eq_false_or_eq_true (x.1.2.2.1==(0:Int))with h6|h6<;>simp only[h1,h2,h3,h4,h5,h6]<;>rfl
theorem s_fields(k:Int)(h:inB k 1 6=true):s_l24Fields (k,())=some (lenB k,valB k,()):=by
 have:=in_iff.1 h
 have hk:k=1∨k=2∨k=3∨k=4∨k=5∨k=6:=by omega
 rcases hk with rfl|rfl|rfl|rfl|rfl|rfl<;>rfl
theorem s_faultB(x):s_IsFault x=some (faultB x.1,()):=by
 have hz:(inB x.1.2.2.2.1 0 1&&(x.1.2.2.2.1==(0:Int)))=(x.1.2.2.2.1==(0:Int)):=by
  rcases Bool.eq_false_or_eq_true (x.1.2.2.2.1==(0:Int))with h|h
  ·have h0:x.1.2.2.2.1=0:=by simpa using h
   rw[h0];rfl
  ·rw[h,Bool.and_false]
 unfold s_IsFault faultB
 simp only[s_in]
 rcases Bool.eq_false_or_eq_true (inB x.1.1 1 6)with h1|h1
 ·have hf:=s_fields x.1.1 h1
  simp only[h1,hf]
  rcases Bool.eq_false_or_eq_true (inB x.1.2.1 0 8192)with h2|h2<;>rcases Bool.eq_false_or_eq_true (lenB x.1.1)with h3|h3<;>rcases Bool.eq_false_or_eq_true (valB x.1.1)with h4|h4<;>rcases Bool.eq_false_or_eq_true (inB x.1.2.2.1 1 8192)with h5|h5<;>rcases Bool.eq_false_or_eq_true (x.1.2.2.1==(0:Int))with h6|h6<;>rcases Bool.eq_false_or_eq_true (inB x.1.2.2.2.1 0 1)with h7|h7<;>rcases Bool.eq_false_or_eq_true (x.1.2.2.2.1==(0:Int))with h8|h8<;>simp only[h7,h8,Bool.false_and,Bool.true_and,reduceCtorEq]at hz<;>simp only[h2,h3,h4,h5,h6,h7,h8,bne]<;>rfl
 ·simp only[h1]
  rfl
def scriptB(l:List TFault.T):Bool:=decide ((l.length:Int)≤30)&&l.all faultB
theorem s_scriptB(l:List TFault.T)(hl:l.length≤1099511627776):s_IsScript (l,())=some (scriptB l,()):=by
 have e:=all_ok (B:=b_s_IsScript_2) l (fun i=>(l,(i:Int),())) faultB (.inl (l,())) (.inr (false,())) (by simp only[b_s_IsScript_2,lt_n]) (fun i h=>by
  have hf:s_IsFault (l[i],())=some (faultB l[i],()):=s_faultB (l[i],())
  simp only[b_s_IsScript_2,lt_i h,next_i h hl,idx_nat h,onSome,hf]
  cases faultB l[i]<;>simp)
 have e:loopL b_s_IsScript_2 (l,(0:Int),())=_:=e
 unfold s_IsScript scriptB
 simp only[e]
 cases l.all faultB<;>simp
theorem i_scriptB(l:List TFault.T)(hl:l.length≤1099511627776):i_IsScript (l,())=some (scriptB l,()):=by
 have hc:=contains_Fault l hl i_IsScript_1 (fun f=> !faultB f) (fun i h=>by
  have hf:i_IsFault (l[i],())=some (faultB l[i],()):=i_faultB (l[i],())
  have e0:i_IsScript_1 (l[i],())=match i_IsFault (l[i],())with
   |none=>none
   |some v1=>some ((!v1.1),()):=rfl
  rw[e0,hf])
 have e0:i_IsScript (l,())=match(decide ((l.length:Int)≤(30:Int)))with
  |true=>match slices_ContainsFunc_Fault (l,i_IsScript_1,())with
   |none=>none
   |some v1=>some ((!v1.1),())
  |false=>some (false,()):=rfl
 rw[e0,hc]
 unfold scriptB
 rw[all_any]
 cases decide ((l.length:Int)≤30)
 ·rfl
 ·simp
def chg(g:Int→Int):Nat→Nat→List Int→List Int
 |0,_,l=>l
 |k+1,i,l=>chg g k (i+1) (l.set i (g (l.getD i 0)))
theorem chg_len(g:Int→Int):∀(k i:Nat) (l:List Int),(chg g k i l).length=l.length
 |0,_,_=>rfl
 |k+1,i,l=>by rw[chg,chg_len g k,List.length_set]
theorem i_changeK(by_:Int×Unit→Option (Int×Unit))(g:Int→Int)(hg:∀v,by_ (v,())=some (g v,()))(to:Int):∀(k i:Nat) (l:List Int),l.length≤1000000→((i+k:Nat):Int)=(if(l.length:Int)<to then(l.length:Int)else to)→loopL b_i_change_1 (l,to,by_,(i:Int),())=some (.inl (chg g k i l,()))
 |0,i,l,hl,h=>by
  rw[loopL_eq]
  have hd:decide ((i:Int)<(if(l.length:Int)<to then(l.length:Int)else to))=false:=decide_eq_false (by omega)
  simp only[b_i_change_1,hd]
  rfl
 |k+1,i,l,hl,h=>by
  have hlt:i<l.length:=by split at h<;>omega
  rw[loopL_eq]
  have hd:decide ((i:Int)<(if(l.length:Int)<to then(l.length:Int)else to))=true:=decide_eq_true (by omega)
  have hget:l[i]? =some l[i]:=List.getElem?_eq_getElem hlt
  simp only[b_i_change_1,hd,idx_nat hlt,onSome,Int.toNat_natCast,hget,hg,next_i hlt (show l.length≤1099511627776 by omega)]
  have ih:=i_changeK by_ g hg to k (i+1) (l.set i (g l[i])) (by rw[List.length_set];exact hl) (by rw[List.length_set];omega)
  rw[ih,chg,List.getD_eq_getElem?_getD,hget]
  rfl
def chgR(g:Int→Int)(l:List Int)(a b:Nat):List Int:=chg g (min b l.length-min a l.length) (min a l.length) l
theorem i_changeR(by_:Int×Unit→Option (Int×Unit))(g:Int→Int)(hg:∀v,by_ (v,())=some (g v,()))(l:List Int)(hl:l.length≤1000000)(a b:Nat)(ha:a≤1000000):i_change (l,(a:Int),(b:Int),by_,())=some (chgR g l a b,()):=by
 have key:loopL b_i_change_1 (l,(b:Int),by_,(a:Int),())=some (.inl (chgR g l a b,())):=by
  by_cases h:a≤min b l.length
  ·have:=i_changeK by_ g hg (b:Int) (min b l.length-a) a l hl (by split<;>omega)
   rw[this]
   unfold chgR
   rw[Nat.min_eq_left (show a≤l.length by omega)]
  ·rw[loopL_eq]
   have hd:decide ((a:Int)<(if(l.length:Int)<(b:Int)then(l.length:Int)else(b:Int)))=false:=decide_eq_false (by split<;>omega)
   simp only[b_i_change_1,hd]
   unfold chgR
   rw[show min b l.length-min a l.length=0 by omega]
   rfl
 unfold i_change
 simp only[key]
end Go.Proofs.YthfgmmmeplanbaaGreatDoor
namespace Go.Proofs.YthfgmmmeplanbaaGreatDoor
open Go.RowKit
set_option linter.unusedVariables false
set_option linter.unusedSimpArgs false
def flipI(v:Int):Int:=IntKind.i64.wrap (1-v)
def gF(f:TFault.T):Int→Int:=if(f.1==(5:Int))=true then fun _=>1 else if(f.1==(6:Int))=true then fun _=>f.2.2.2.1 else flipI
theorem bnd_cut(n k:Nat)(e:Int)(he:e=(k:Int))(hk:k≤n):bounds n none (some (.dat (.int .i64) e))=some (0,k):=by
 subst he
 simp only[bounds,bndOr,optInt,castT_refl]
 rw[if_pos (by omega)]
 simp
theorem bnd_from(n k:Nat)(e:Int)(he:e=(k:Int))(hk:k≤n):bounds n (some (.dat (.int .i64) e)) none=some (k,n):=by
 subst he
 simp only[bounds,bndOr,optInt,castT_refl]
 rw[if_pos (by omega)]
 simp
theorem s_chgK(f:TFault.T)(to:Nat):∀(k i:Nat) (l:List Int),l.length≤1000000→i+k=to→to≤l.length→loopL b_s_l24Apply_18 (f,(to:Int),l,(i:Int),())=some (.inl (chg (gF f) k i l,()))
 |0,i,l,hl,h,ht=>by
  have h:i=to:=by omega
  subst h
  rw[loopL_eq]
  simp only[b_s_l24Apply_18,lt_n]
  rfl
 |k+1,i,l,hl,h,ht=>by
  have hlt:i<l.length:=by omega
  have hlt2:i<to:=by omega
  have hget:l[i]? =some l[i]:=List.getElem?_eq_getElem hlt
  have hg:l.getD i 0=l[i]:=by rw[List.getD_eq_getElem?_getD,hget];rfl
  have ih:=s_chgK f to k (i+1) (l.set i (gF f l[i])) (by rw[List.length_set];exact hl) (by omega) (by rw[List.length_set];exact ht)
  rw[loopL_eq,chg,hg]
  unfold gF at ih ⊢
  rcases Bool.eq_false_or_eq_true (f.1==(5:Int))with h5|h5
  ·rw[h5]at ih ⊢
   simp only[if_true]at ih ⊢
   simp only[b_s_l24Apply_18,lt_i hlt2,h5,idx_nat hlt,onSome,Int.toNat_natCast,hget,next_i hlt (show l.length≤1099511627776 by omega)]
   exact ih
  ·rcases Bool.eq_false_or_eq_true (f.1==(6:Int))with h6|h6
   ·rw[h5,h6]at ih ⊢
    simp only[if_true,Bool.false_eq_true,if_false]at ih ⊢
    simp only[b_s_l24Apply_18,lt_i hlt2,h5,h6,idx_nat hlt,onSome,Int.toNat_natCast,hget,next_i hlt (show l.length≤1099511627776 by omega)]
    exact ih
   ·rw[h5,h6]at ih ⊢
    simp only[Bool.false_eq_true,if_false]at ih ⊢
    simp only[b_s_l24Apply_18,lt_i hlt2,h5,h6,idx_nat hlt,onSome,Int.toNat_natCast,hget,next_i hlt (show l.length≤1099511627776 by omega)]
    exact ih
theorem s_chg16(l:List Int)(hl:l.length≤1000000)(f:TFault.T)(a b:Nat)(hab:a≤b)(hb:b≤l.length):c_s_l24Apply_16 (l,f,(a:Int),(b:Int),())=some (.inr (chg (gF f) (b-a) a l,())):=by
 have ho:=own_ok l hl
 have e:=s_chgK f b (b-a) a l hl (by omega) hb
 have e':loopL b_s_l24Apply_18 ((f.1,f.2.1,f.2.2.1,f.2.2.2.1,()),(b:Int),l,(a:Int),())=_:=e
 unfold c_s_l24Apply_16
 simp only[ho]
 first|simp only[e]|simp only[e']
noncomputable def faultL(l:List Int)(f:TFault.T):List Int:=
 if f.1=1 then chgR flipI l f.2.1.toNat (f.2.1.toNat+1)
 else if f.1=2 then chgR flipI l f.2.1.toNat (f.2.1.toNat+f.2.2.1.toNat)
 else if f.1=3 then l.take (min f.2.1.toNat l.length)++l.drop (min (f.2.1.toNat+f.2.2.1.toNat) l.length)
 else if f.1=4 then(if f.2.1.toNat≤l.length then l.take f.2.1.toNat++List.replicate f.2.2.1.toNat f.2.2.2.1++l.drop f.2.1.toNat else l).take 8192
 else if f.1=5 then chgR (fun _=>1) l f.2.1.toNat l.length
 else chgR (fun _=>f.2.2.2.1) l f.2.1.toNat (f.2.1.toNat+f.2.2.1.toNat)
theorem fault_parts {k a c v:Int}(h:faultB (k,a,c,v,())=true):(k=1∨k=2∨k=3∨k=4∨k=5∨k=6)∧(∃n:Nat,a=(n:Int)∧n≤8192)∧(∃n:Nat,c=(n:Int)∧n≤8192∧((k=2∨k=3∨k=4∨k=6)→1≤n)):=by
 unfold faultB at h
 simp only[Bool.and_eq_true]at h
 obtain⟨h1,h2,h3,_⟩:=h
 have h1:=in_iff.1 h1
 have h2:=in_iff.1 h2
 refine⟨by omega,⟨a.toNat,by omega,by omega⟩, ?_⟩
 by_cases hk:k=1∨k=5
 ·have:lenB k=false:=by rcases hk with rfl|rfl<;>rfl
  rw[this]at h3
  have h3:c=0:=by simpa using h3
  exact⟨0,by omega,by omega,fun h=>by omega⟩
 ·have:lenB k=true:=by
   unfold lenB
   simp only[Bool.and_eq_true,bne_iff_ne]
   omega
  rw[this]at h3
  have h3:=in_iff.1 h3
  exact⟨c.toNat,by omega,by omega,fun _=>by omega⟩
theorem fault4(l:List Int)(a c:Nat)(v:Int):faultL l ((4:Int),(a:Int),(c:Int),v,())=(if a≤l.length then l.take a++List.replicate c v++l.drop a else l).take 8192:=by
 unfold faultL
 rw[if_neg (show ¬(4:Int)=1 by decide),if_neg (show ¬(4:Int)=2 by decide),if_neg (show ¬(4:Int)=3 by decide),if_pos (show(4:Int)=4 from rfl)]
 simp only[Int.toNat_natCast]
theorem i_fault_ok(l:List Int)(hl:l.length≤8192)(f:TFault.T)(hf:faultB f=true):i_applyFault (l,f,())=some (faultL l f,()):=by
 obtain⟨(k:Int),(a:Int),(c:Int),(v:Int),⟨⟩⟩:=f
 obtain⟨hk,⟨a,rfl,ha⟩,⟨c,rfl,hc,hc1⟩⟩:=fault_parts hf
 have hcl:=clone_ok l (by omega)
 have w1:IntKind.i64.wrap ((a:Int)+1)=((a+1:Nat):Int):=by rw[wrap_i64]<;>omega
 have w2:IntKind.i64.wrap ((a:Int)+(c:Int))=((a+c:Nat):Int):=by rw[wrap_i64]<;>omega
 have q1:∀z,i_applyFault_1 (z,())=some (flipI z,()):=fun z=>rfl
 have q2:∀z,i_applyFault_2 (z,())=some ((fun _=>(1:Int)) z,()):=fun z=>rfl
 have q3:∀z,(fun z:Int×Unit=>i_applyFault_3 (z.1,(k,(a:Int),(c:Int),v,()),())) (z,())=some ((fun _=>v) z,()):=fun z=>rfl
 have c1:=i_changeR i_applyFault_1 flipI q1 l (by omega) a (a+1) (by omega)
 have c2:=i_changeR i_applyFault_1 flipI q1 l (by omega) a (a+c) (by omega)
 have c5:=i_changeR i_applyFault_2 (fun _=>1) q2 l (by omega) a l.length (by omega)
 have c6:=i_changeR (fun z=>i_applyFault_3 (z.1,(k,(a:Int),(c:Int),v,()),())) (fun _=>v) q3 l (by omega) a (a+c) (by omega)
 have m1:(if(a:Int)<(l.length:Int)then(a:Int)else(l.length:Int))=((min a l.length:Nat):Int):=by split<;>omega
 have m2:(if((a+c:Nat):Int)<(l.length:Int)then((a+c:Nat):Int)else(l.length:Int))=((min (a+c) l.length:Nat):Int):=by split<;>omega
 have cut:∀z:List Int,bounds z.length none (some (.dat (.int .i64) (if(z.length:Int)<(8192:Int)then(z.length:Int)else(8192:Int))))=some (0,min z.length 8192):=fun z=>bnd_cut _ _ _ (by split<;>omega) (Nat.min_le_left _ _)
 have cutT:∀z:List Int,List.drop 0 (List.take (min z.length 8192) z)=z.take 8192:=fun z=>by
  rw[List.drop_zero]
  by_cases hz:z.length≤8192
  ·rw[Nat.min_eq_left hz,List.take_of_length_le (Nat.le_refl _),List.take_of_length_le hz]
  ·rw[Nat.min_eq_right (by omega)]
 unfold i_applyFault
 simp only[hcl]
 rcases hk with rfl|rfl|rfl|rfl|rfl|rfl
 ·unfold faultL
  simp only[show((1:Int)==1)=true from rfl,w1,c1,if_true,Int.toNat_natCast]
 ·unfold faultL
  simp only[show((2:Int)==1)=false from rfl,show((2:Int)==2)=true from rfl,w2,c2,Int.toNat_natCast]
  rfl
 ·unfold faultL
  have hd:slices_Delete_int64 (l,((min a l.length:Nat):Int),((min (a+c) l.length:Nat):Int),())=some (l.take (min a l.length)++l.drop (min (a+c) l.length),()):=by
   unfold slices_Delete_int64 delF
   simp only[Int.toNat_natCast]
   rw[if_pos (by omega)]
   rfl
  simp only[show((3:Int)==1)=false from rfl,show((3:Int)==2)=false from rfl,show((3:Int)==3)=true from rfl,w2,m1,m2,hd,Int.toNat_natCast]
  rfl
 ·rw[fault4]
  simp only[show((4:Int)==1)=false from rfl,show((4:Int)==2)=false from rfl,show((4:Int)==3)=false from rfl,show((4:Int)==4)=true from rfl,Int.toNat_natCast]
  by_cases hal:a≤l.length
  ·have hr:=i_rep [] v c (by simp;omega)
   rw[List.nil_append]at hr
   have hi:slices_Insert_int64 (l,(a:Int),List.replicate c v,())=some (l.take a++List.replicate c v++l.drop a,()):=by
    unfold slices_Insert_int64 insF
    simp only[Int.toNat_natCast,List.length_replicate]
    have:=hc1 (by omega)
    rw[if_pos (by omega)]
    rfl
   have hd:decide ((a:Int)≤(l.length:Int))=true:=decide_eq_true (by omega)
   rw[if_pos hal]
   simp only[hd,hr,hi]
   rw[cut]
   exact congrArg (fun z:List Int=>some (z,())) (cutT _)
  ·have hd:decide ((a:Int)≤(l.length:Int))=false:=decide_eq_false (by omega)
   rw[if_neg hal]
   simp only[hd]
   rw[cut]
   exact congrArg (fun z:List Int=>some (z,())) (cutT _)
 ·unfold faultL
  simp only[show((5:Int)==1)=false from rfl,show((5:Int)==2)=false from rfl,show((5:Int)==3)=false from rfl,show((5:Int)==4)=false from rfl,show((5:Int)==5)=true from rfl,c5,Int.toNat_natCast]
  rfl
 ·unfold faultL
  simp only[show((6:Int)==1)=false from rfl,show((6:Int)==2)=false from rfl,show((6:Int)==3)=false from rfl,show((6:Int)==4)=false from rfl,show((6:Int)==5)=false from rfl,show((6:Int)==6)=true from rfl,w2,Int.toNat_natCast]
  simp only[c6]
  rfl
theorem s_fault_ok(l:List Int)(hl:l.length≤8192)(f:TFault.T)(hf:faultB f=true):s_l24Apply (l,f,())=some (faultL l f,()):=by
 obtain⟨(k:Int),(a:Int),(c:Int),(v:Int),⟨⟩⟩:=f
 obtain⟨hk,⟨a,rfl,ha⟩,⟨c,rfl,hc,hc1⟩⟩:=fault_parts hf
 have w1:IntKind.i64.wrap ((a:Int)+1)=((a+1:Nat):Int):=by rw[wrap_i64]<;>omega
 have w2:IntKind.i64.wrap ((a:Int)+(c:Int))=((a+c:Nat):Int):=by rw[wrap_i64]<;>omega
 have m1:(if(a:Int)<(l.length:Int)then(a:Int)else(l.length:Int))=((min a l.length:Nat):Int):=by split<;>omega
 have m2:(if((a+c:Nat):Int)<(l.length:Int)then((a+c:Nat):Int)else(l.length:Int))=((min (a+c) l.length:Nat):Int):=by split<;>omega
 have m3:(if((a+1:Nat):Int)<(l.length:Int)then((a+1:Nat):Int)else(l.length:Int))=((min (a+1) l.length:Nat):Int):=by split<;>omega
 have cut:∀z:List Int,bounds z.length none (some (.dat (.int .i64) (if(8192:Int)<(z.length:Int)then(8192:Int)else(z.length:Int))))=some (0,min z.length 8192):=fun z=>bnd_cut _ _ _ (by split<;>omega) (Nat.min_le_left _ _)
 have cutT:∀z:List Int,List.drop 0 (List.take (min z.length 8192) z)=z.take 8192:=fun z=>by
  rw[List.drop_zero]
  by_cases hz:z.length≤8192
  ·rw[Nat.min_eq_left hz,List.take_of_length_le (Nat.le_refl _),List.take_of_length_le hz]
  ·rw[Nat.min_eq_right (by omega)]
 have b1:bounds l.length none (some (.dat (.int .i64) ((min a l.length:Nat):Int)))=some (0,min a l.length):=bnd_cut _ _ _ rfl (Nat.min_le_right _ _)
 have b2:bounds l.length (some (.dat (.int .i64) ((min (a+c) l.length:Nat):Int))) none=some (min (a+c) l.length,l.length):=bnd_from _ _ _ rfl (Nat.min_le_right _ _)
 have b3:bounds l.length (some (.dat (.int .i64) ((min a l.length:Nat):Int))) none=some (min a l.length,l.length):=bnd_from _ _ _ rfl (Nat.min_le_right _ _)
 have o0:=own_ok l (by omega)
 have o1:=own_ok (l.take (min a l.length)) (by rw[List.length_take];omega)
 have key:c_s_l24Apply_3 (l,(k,(a:Int),(c:Int),v,()),(l.length:Int),((min a l.length:Nat):Int),((min (a+c) l.length:Nat):Int),())=some (.inr (faultL l (k,(a:Int),(c:Int),v,()),())):=by
  unfold c_s_l24Apply_3 faultL
  rcases hk with rfl|rfl|rfl|rfl|rfl|rfl
  ·have h:=s_chg16 l (by omega) ((1:Int),(a:Int),(c:Int),v,()) (min a l.length) (min (a+1) l.length) (by omega) (by omega)
   simp only[show((1:Int)==1)=true from rfl,w1,m3,h,if_true,Int.toNat_natCast]
   rfl
  ·have h:=s_chg16 l (by omega) ((2:Int),(a:Int),(c:Int),v,()) (min a l.length) (min (a+c) l.length) (by omega) (by omega)
   simp only[show((2:Int)==1)=false from rfl,show((2:Int)==5)=false from rfl,show((2:Int)==3)=false from rfl,show((2:Int)==4)=false from rfl,h,Int.toNat_natCast]
   rfl
  ·simp only[show((3:Int)==1)=false from rfl,show((3:Int)==5)=false from rfl,show((3:Int)==3)=true from rfl,b1,b2,onSome,List.drop_zero,List.take_length,o1,Int.toNat_natCast]
   rw[room_ok (by rw[List.length_take,List.length_drop];omega)]
   rfl
  ·simp only[show((4:Int)==1)=false from rfl,show((4:Int)==5)=false from rfl,show((4:Int)==3)=false from rfl,show((4:Int)==4)=true from rfl,Int.toNat_natCast]
   by_cases hal:a≤l.length
   ·have hd:decide ((a:Int)>(l.length:Int))=false:=decide_eq_false (by omega)
    have hr:=s_equal c v (by omega)
    simp only[hd,b1,b3,onSome,List.drop_zero,List.take_length,o1,hr]
    rw[room_ok (by rw[List.length_take,List.length_replicate];omega),room_ok (by rw[List.length_append,List.length_take,List.length_replicate,List.length_drop];omega)]
    simp only[cut,cutT]
    rw[if_pos hal,Nat.min_eq_left hal]
    rfl
   ·have hd:decide ((a:Int)>(l.length:Int))=true:=decide_eq_true (by omega)
    simp only[hd,o0,if_neg hal]
    rw[List.take_of_length_le hl]
    rfl
  ·have h:=s_chg16 l (by omega) ((5:Int),(a:Int),(c:Int),v,()) (min a l.length) l.length (by omega) (Nat.le_refl _)
   simp only[show((5:Int)==1)=false from rfl,show((5:Int)==5)=true from rfl,h,Int.toNat_natCast]
   show _=some (Sum.inr (chg _ (min l.length l.length-min a l.length) (min a l.length) l,()))
   rw[Nat.min_self]
   rfl
  ·have h:=s_chg16 l (by omega) ((6:Int),(a:Int),(c:Int),v,()) (min a l.length) (min (a+c) l.length) (by omega) (by omega)
   simp only[show((6:Int)==1)=false from rfl,show((6:Int)==5)=false from rfl,show((6:Int)==3)=false from rfl,show((6:Int)==4)=false from rfl,h,Int.toNat_natCast]
   rfl
 unfold s_l24Apply
 simp only[w2,m1,m2,key]
 exact same_id _
theorem fault_len(l:List Int)(hl:l.length≤8192)(f:TFault.T):(faultL l f).length≤8192:=by
 unfold faultL chgR
 split
 ·rw[chg_len];exact hl
 ·split
  ·rw[chg_len];exact hl
  ·split
   ·rw[List.length_append,List.length_take,List.length_drop]
    omega
   ·split
    ·rw[List.length_take];exact Nat.min_le_left _ _
    ·split
     ·rw[chg_len];exact hl
     ·rw[chg_len];exact hl
noncomputable def scriptL(l:List Int)(s:List TFault.T):List Int:=s.foldl faultL l
theorem script_len(s:List TFault.T)(l:List Int)(hl:l.length≤8192):(scriptL l s).length≤8192:=foldl_inv (P:=fun z:List Int=>z.length≤8192) s l (fun z f _ hz=>fault_len z hz f) hl
theorem script_parts {s:List TFault.T}(h:scriptB s=true):s.length≤30∧∀f ∈ s,faultB f=true:=by
 unfold scriptB at h
 simp only[Bool.and_eq_true,decide_eq_true_eq,List.all_eq_true]at h
 exact⟨by omega,h.2⟩
theorem i_script(l:List Int)(hl:l.length≤8192)(s:List TFault.T)(hs:scriptB s=true):i_applyScript (l,s,())=some (scriptL l s,()):=by
 obtain⟨h1,h2⟩:=script_parts hs
 have hcl:=clone_ok l (by omega)
 have e:=fold_inv (B:=b_i_applyScript_3) s (fun z i=>(z,s,(s.length:Int),(i:Int),())) faultL (fun z=>.inl (z,())) (fun z=>z.length≤8192) (fun z f _ hz=>fault_len z hz f) (fun z _=>by simp only[b_i_applyScript_3,lt_n]) (fun z i h hz=>by
  have hf:=i_fault_ok z hz s[i] (h2 _ (List.getElem_mem h))
  have hf':i_applyFault (z,(s[i].1,s[i].2.1,s[i].2.2.1,s[i].2.2.2.1,()),())=_:=hf
  simp only[b_i_applyScript_3,lt_i h,next_i h (show s.length≤1099511627776 by omega),idx_nat h,onSome]
  first|simp only[hf]|simp only[hf']) s.length 0 l (by omega) hl
 have e:loopL b_i_applyScript_3 (l,s,(s.length:Int),(0:Int),())=_:=e
 unfold i_applyScript scriptL
 simp only[hcl,e,List.drop_zero]
theorem s_script(l:List Int)(hl:l.length≤8192)(s:List TFault.T)(hs:scriptB s=true):s_l25Apply (l,s,())=some (scriptL l s,()):=by
 obtain⟨h1,h2⟩:=script_parts hs
 have hcl:=own_ok l (by omega)
 have e:=fold_inv (B:=b_s_l25Apply_3) s (fun z i=>(s,z,(i:Int),())) faultL (fun z=>.inl (z,())) (fun z=>z.length≤8192) (fun z f _ hz=>fault_len z hz f) (fun z _=>by simp only[b_s_l25Apply_3,lt_n]) (fun z i h hz=>by
  have hf:=s_fault_ok z hz s[i] (h2 _ (List.getElem_mem h))
  have hf':s_l24Apply (z,(s[i].1,s[i].2.1,s[i].2.2.1,s[i].2.2.2.1,()),())=_:=hf
  simp only[b_s_l25Apply_3,lt_i h,next_i h (show s.length≤1099511627776 by omega),idx_nat h,onSome]
  first|simp only[hf]|simp only[hf']) s.length 0 l (by omega) hl
 have e:loopL b_s_l25Apply_3 (s,l,(0:Int),())=_:=e
 unfold s_l25Apply scriptL
 simp only[hcl,e,List.drop_zero]
end Go.Proofs.YthfgmmmeplanbaaGreatDoor
namespace Go.Proofs.YthfgmmmeplanbaaGreatDoor
open Go.RowKit
set_option linter.unusedVariables false
set_option linter.unusedSimpArgs false
noncomputable def scrR(m:TMedl.T)(st:TState.T)(f:TFrame.T)(s:List TFault.T):List Int×Int×Unit:=if scodeN m st f=0 then(match scriptB s with|true=>(scriptL (samplesL (cellsM m st f)) s,(0:Int),())|false=>([],(3:Int),()))else([],scodeN m st f,())
theorem samplesM_len {m:TMedl.T}{st:TState.T}{f:TFrame.T}(h:scodeN m st f=0):(samplesL (cellsM m st f)).length≤8192:=by
 have:=(cells_in h).1
 rw[samples_len]
 omega
theorem scr_len(m:TMedl.T)(st:TState.T)(f:TFrame.T)(s:List TFault.T):(scrR m st f s).1.length≤8192:=by
 unfold scrR
 split
 ·rename_i h
  split
  ·exact script_len s _ (samplesM_len h)
  ·exact Nat.zero_le _
 ·exact Nat.zero_le _
theorem i_scr(m:TMedl.T)(st:TState.T)(f:TFrame.T)(s:List TFault.T)(hz:sizesM m)(hl:f.2.2.2.1.length≤1099511627776)(hs:s.length≤1099511627776):i_SendScripted (m,st,f,s,())=some (scrR m st f s):=by
 have h1:=i_slotS m st f hz hl
 have h2:=i_scriptB s hs
 have e0:i_SendScripted (m,st,f,s,())=match i_SlotSamples (m,st,f,())with
  |none=>none
  |some v1=>match(v1.2.1 != (0:Int))with
   |true=>some ([],v1.2.1,())
   |false=>match i_IsScript (s,())with
    |none=>none
    |some v2=>match(!v2.1)with
     |true=>some ([],(3:Int),())
     |false=>match i_applyScript (v1.1,s,())with
      |none=>none
      |some v3=>some (v3.1,(0:Int),()):=rfl
 rw[e0,h1]
 unfold scrR
 by_cases h:scodeN m st f=0
 ·have k0:((0:Int) != 0)=false:=rfl
  simp only[if_pos h,k0,h2]
  cases hb:scriptB s
  ·rfl
  ·have h3:=i_script (samplesL (cellsM m st f)) (samplesM_len h) s hb
   simp only[Bool.not_true,h3]
 ·have k0:(scodeN m st f != 0)=true:=by simpa using h
  simp only[if_neg h,k0]
theorem s_scr(m:TMedl.T)(st:TState.T)(f:TFrame.T)(s:List TFault.T)(hz:sizesM m)(hl:f.2.2.2.1.length≤1099511627776)(hs:s.length≤1099511627776):s_SendScripted (m,st,f,s,())=some (scrR m st f s):=by
 have h1:=s_slotS m st f hz hl
 have h2:=s_scriptB s hs
 have e0:s_SendScripted (m,st,f,s,())=match s_SlotSamples (m,st,f,())with
  |none=>none
  |some v1=>match(v1.2.1==(0:Int))with
   |true=>match s_IsScript (s,())with
    |none=>none
    |some v2=>match(!v2.1)with
     |true=>match((3:Int) != (0:Int))with
      |true=>some ([],(3:Int),())
      |false=>match s_l25Apply (v1.1,s,())with
       |none=>none
       |some v3=>some (v3.1,(0:Int),())
     |false=>match(v1.2.1 != (0:Int))with
      |true=>some ([],v1.2.1,())
      |false=>match s_l25Apply (v1.1,s,())with
       |none=>none
       |some v4=>some (v4.1,(0:Int),())
   |false=>match(v1.2.1 != (0:Int))with
    |true=>some ([],v1.2.1,())
    |false=>match s_l25Apply (v1.1,s,())with
     |none=>none
     |some v5=>some (v5.1,(0:Int),()):=rfl
 rw[e0,h1]
 unfold scrR
 by_cases h:scodeN m st f=0
 ·have k0:((0:Int) != 0)=false:=rfl
  have k1:((0:Int)==0)=true:=rfl
  have k3:((3:Int) != 0)=true:=rfl
  simp only[if_pos h,k0,k1,h2]
  cases hb:scriptB s
  ·simp only[Bool.not_false,k3]
  ·have h3:=s_script (samplesL (cellsM m st f)) (samplesM_len h) s hb
   simp only[Bool.not_true,h3]
 ·have k0:(scodeN m st f != 0)=true:=by simpa using h
  have k1:(scodeN m st f==0)=false:=by simpa using h
  simp only[if_neg h,k0,k1]
noncomputable def sendR(m:TMedl.T)(st:TState.T)(f:TFrame.T)(s1 s2:List TFault.T):TVerdict.T×Int×Unit:=match(scrR m st f s1).2.1 != (0:Int)with
 |true=>(bareV 0,(scrR m st f s1).2.1,())
 |false=>match(scrR m st f s2).2.1 != (0:Int)with
  |true=>(bareV 0,(scrR m st f s2).2.1,())
  |false=>bothR m st (scrR m st f s1).1 (scrR m st f s2).1
theorem i_sendR(m:TMedl.T)(st:TState.T)(f:TFrame.T)(s1 s2:List TFault.T)(hz:sizesM m)(hl:f.2.2.2.1.length≤1099511627776)(hs1:s1.length≤1099511627776)(hs2:s2.length≤1099511627776):i_SendBoth (m,st,f,s1,s2,())=some (sendR m st f s1 s2):=by
 have h1:=i_scr m st f s1 hz hl hs1
 have h2:=i_scr m st f s2 hz hl hs2
 have l1:=scr_len m st f s1
 have l2:=scr_len m st f s2
 have h3:=i_both m st (scrR m st f s1).1 (scrR m st f s2).1 hz (by omega) (by omega)
 have e0:i_SendBoth (m,st,f,s1,s2,())=match i_SendScripted (m,st,f,s1,())with
  |none=>none
  |some v1=>match(v1.2.1 != (0:Int))with
   |true=>some (bareV 0,v1.2.1,())
   |false=>match i_SendScripted (m,st,f,s2,())with
    |none=>none
    |some v2=>match(v2.2.1 != (0:Int))with
     |true=>some (bareV 0,v2.2.1,())
     |false=>match i_ReceiveBoth (m,st,v1.1,v2.1,())with
      |none=>none
      |some v3=>some v3:=rfl
 rw[e0,h1]
 unfold sendR
 simp only[h2,h3]
 rcases Bool.eq_false_or_eq_true ((scrR m st f s1).2.1 != (0:Int))with g|g<;>simp only[g]
 rcases Bool.eq_false_or_eq_true ((scrR m st f s2).2.1 != (0:Int))with g2|g2<;>simp only[g2]
theorem s_sendR(m:TMedl.T)(st:TState.T)(f:TFrame.T)(s1 s2:List TFault.T)(hz:sizesM m)(hl:f.2.2.2.1.length≤1099511627776)(hs1:s1.length≤1099511627776)(hs2:s2.length≤1099511627776):s_SendBoth (m,st,f,s1,s2,())=some (sendR m st f s1 s2):=by
 have h1:=s_scr m st f s1 hz hl hs1
 have h2:=s_scr m st f s2 hz hl hs2
 have l1:=scr_len m st f s1
 have l2:=scr_len m st f s2
 have h3:=s_both m st (scrR m st f s1).1 (scrR m st f s2).1 hz (by omega) (by omega)
 have e0:s_SendBoth (m,st,f,s1,s2,())=match s_SendScripted (m,st,f,s1,())with
  |none=>none
  |some v1=>match(v1.2.1 != (0:Int))with
   |true=>some (bareV 0,v1.2.1,())
   |false=>match s_SendScripted (m,st,f,s2,())with
    |none=>none
    |some v2=>match(v2.2.1 != (0:Int))with
     |true=>some (bareV 0,v2.2.1,())
     |false=>match s_ReceiveBoth (m,st,v1.1,v2.1,())with
      |none=>none
      |some v3=>some v3:=rfl
 rw[e0,h1]
 unfold sendR
 simp only[h2,h3]
 rcases Bool.eq_false_or_eq_true ((scrR m st f s1).2.1 != (0:Int))with g|g<;>simp only[g]
 rcases Bool.eq_false_or_eq_true ((scrR m st f s2).2.1 != (0:Int))with g2|g2<;>simp only[g2]
theorem send_data(m:TMedl.T)(st:TState.T)(f:TFrame.T)(s1 s2:List TFault.T):(sendR m st f s1 s2).1.2.1.2.2.2.1.length≤32:=by
 unfold sendR
 split
 ·exact Nat.zero_le _
 ·split
  ·exact Nat.zero_le _
  ·exact both_data m st _ _
end Go.Proofs.YthfgmmmeplanbaaGreatDoor
namespace Go.Proofs.YthfgmmmeplanbaaGreatDoor
open Go.RowKit
set_option linter.unusedVariables false
set_option linter.unusedSimpArgs false
theorem sz_medl2(m:TMedl.T)(hx:Wf TMedl m):∃y:Int,l_szMedl (m,(1048576:Int),())=some (y,())∧y≤1048576∧(0≤y→smallM m):=by
 obtain⟨y,hy,hs⟩:=sz_medl m hx
 refine⟨y,hy, ?_,hs⟩
 have w1:m.2.1.length≤maxLen:=hx.2.1.1
 have w2:∀v ∈ m.2.1,v.2.1.length≤maxLen:=fun v hv=>(hx.2.1.2 v hv).2.1
 have w3:m.2.2.1.length≤maxLen:=hx.2.2.1.1
 have w4:∀v ∈ m.2.2.1,v.2.2.1.length≤maxLen:=fun v hv=>(hx.2.2.1.2 v hv).2.2.1.1
 have w5:m.2.2.2.1.length≤maxLen:=hx.2.2.2.1.1
 obtain⟨a,ea,a1,a2⟩:=sz_nodes m.2.1 w1 w2 1048576 (by omega) (by omega)
 unfold l_szMedl at hy
 simp only[ea]at hy
 by_cases ca:a<0
 ·simp only[decide_eq_true ca]at hy
  have:y= -1:=by cases hy;rfl
  omega
 ·obtain⟨b,eb,b1,b2⟩:=sz_modes m.2.2.1 w3 w4 a (by omega) (by omega)
  simp only[decide_eq_false ca,eb]at hy
  by_cases cb:b<0
  ·simp only[decide_eq_true cb]at hy
   have:y= -1:=by cases hy;rfl
   omega
  ·have ec:=sz_SlotInfoS (m.2.2.2.1,b,()) (show(0:Int)≤b by omega) (show b≤(1048576:Int) by omega) w5
   simp only[decide_eq_false cb,ec]at hy
   by_cases cc:b-(m.2.2.2.1.length:Int)<0
   ·simp only[if_pos cc]at hy
    have:y= -1:=by cases hy;rfl
    omega
   ·simp only[if_neg cc,decide_eq_false cc]at hy
    have:y=b-(m.2.2.2.1.length:Int):=by cases hy;rfl
    omega
theorem sz_faults(s:List TFault.T)(n:Int)(h0:0≤n)(h1:n≤1048576)(hw:s.length≤maxLen):∃y:Int,l_szFaultS (s,n,())=some (y,())∧y≤n∧(0≤y→(s.length:Int)≤n):=by
 have e:=sz_FaultS (s,n,()) h0 h1 hw
 by_cases hc:n-(s.length:Int)<0
 ·exact⟨-1,by rw[e,if_pos hc],by omega,fun h=>by omega⟩
 ·exact⟨n-s.length,by rw[e,if_neg hc],by omega,fun h=>by omega⟩
theorem sz_frame(f:TFrame.T)(n:Int)(h0:0≤n)(h1:n≤1048576)(hw:f.2.2.2.1.length≤maxLen):∃y:Int,l_szFrame (f,n,())=some (y,())∧y≤n∧(0≤y→(f.2.2.2.1.length:Int)≤n):=by
 have e:=sz_Int64S (f.2.2.2.1,n,()) h0 h1 hw
 have e0:l_szFrame (f,n,())=match l_szInt64S (f.2.2.2.1,n,())with
  |none=>none
  |some v1=>match(decide (v1.1<(0:Int)))with
   |true=>some ((-1:Int),())
   |false=>some (v1.1,()):=rfl
 rw[e0,e]
 by_cases hc:n-(f.2.2.2.1.length:Int)<0
 ·refine⟨-1, ?_,by omega,fun h=>by omega⟩
  simp only[if_pos hc]
  rfl
 ·refine⟨n-f.2.2.2.1.length, ?_,by omega,fun h=>by omega⟩
  simp only[if_neg hc,decide_eq_false hc]
theorem to_frame(f:TFrame.T)(h:f.2.2.2.1.length≤1099511627776):l_toFrame (f,())=some (f,()):=by
 have h1:l_toInt64S (f.2.2.2.1,())=some (f.2.2.2.1,()):=to_Int64S (f.2.2.2.1,()) h
 have e0:l_toFrame (f,())=match l_toInt64S (f.2.2.2.1,())with
  |none=>none
  |some v2=>some ((f.1,f.2.1,f.2.2.1,v2.1,()),()):=rfl
 rw[e0,h1]
theorem mark_frame(f:TFrame.T)(q:Int)(h:f.2.2.2.1.length≤1099511627776):∃f',l_markFrame (f,q,())=some ((marks f_Int64 f.2.2.2.1 q).2,f',()):=by
 have h1:l_markInt64S (f.2.2.2.1,q,())=_:=mark_Int64S (f.2.2.2.1,q,()) h
 have e0:l_markFrame (f,q,())=match l_markInt64S (f.2.2.2.1,q,())with
  |none=>none
  |some v1=>some (v1.1,(f.1,f.2.1,f.2.2.1,v1.2.1,()),()):=rfl
 rw[e0,h1]
 exact⟨_,rfl⟩
theorem c46_ok(v:TVerdict.T)(c:Int)(hv:v.2.1.2.2.2.1.length≤1099511627776):c_l_FnExactSendBoth_46 (v,c,withD v (marks f_Int64 v.2.1.2.2.2.1 1).1,(marks f_Int64 v.2.1.2.2.2.1 1).2,v,c,())=some (.inr (true,())):=by
 have q1:=eq_Verdict v hv
 have h3:=held_Verdict1 v v.2.1.2.2.2.1 hv
 have n3:=q_Int64S v.2.1.2.2.2.1 hv 1 (by omega) (by omega)
 have d3:decide ((marks f_Int64 v.2.1.2.2.2.1 1).2<0)=false:=by simp;omega
 obtain⟨(s1:Int),⟨(f1:Int),(r1:Int),⟨(t11:Int),(t12:Int),(t13:Int),(t14:Int),(t15:Int),⟨⟩⟩,(da:List Int),⟨⟩⟩,⟨⟩⟩:=v
 simp only[withD]at q1 h3 d3 ⊢
 unfold c_l_FnExactSendBoth_46
 simp only[q1,h3,d3,bne_self_i,Bool.not_true]
def flatF(f:TFrame.T):Int×Int×Int×Int×Int×Int×Int×List Int×Unit:=(f.1,f.2.1,f.2.2.1.1,f.2.2.1.2.1,f.2.2.1.2.2.1,f.2.2.1.2.2.2.1,f.2.2.1.2.2.2.2.1,f.2.2.2.1,())
theorem c20_ok(m:TMedl.T)(st:TState.T)(f:TFrame.T)(s1 s2:List TFault.T)(v:TVerdict.T)(c:Int)(hm:smallM m)(hf:f.2.2.2.1.length≤1048576)(hs1:s1.length≤1048576)(hs2:s2.length≤1048576)(hv:v.2.1.2.2.2.1.length≤1099511627776)(hi:i_SendBoth (m,st,f,s1,s2,())=some (v,c,())):
  c_l_FnExactSendBoth_20 (s1,s2,m,st,flatF f,v,c,m,f,s1,s2,v,c,())=some (.inr (true,())):=by
 have q1:=eq_Verdict v hv
 have k3:=mark_Verdict1 v 1 hv
 have h3:=held_Verdict1 v v.2.1.2.2.2.1 hv
 have n3:=q_Int64S v.2.1.2.2.2.1 hv 1 (by omega) (by omega)
 have d3:decide ((marks f_Int64 v.2.1.2.2.2.1 1).2<0)=false:=by simp;omega
 have c46:=c46_ok v c hv
 have t1:=to_Medl m hm
 have t2:l_toFaultS (s1,())=some (s1,()):=to_FaultS (s1,()) (Nat.le_trans hs1 (by omega))
 have t4:l_toFaultS (s2,())=some (s2,()):=to_FaultS (s2,()) (Nat.le_trans hs2 (by omega))
 have t3:l_toState (st,())=some (st,()):=rfl
 have t5:=to_frame f (Nat.le_trans hf (by omega))
 have e1:=eq_Medl m hm
 have e2:l_eqFaultS (s1,s1,())=some (true,()):=eq_FaultS _ rfl (Nat.le_trans hs1 (by omega))
 have e3:l_eqFaultS (s2,s2,())=some (true,()):=eq_FaultS _ rfl (Nat.le_trans hs2 (by omega))
 have e5:l_eqFrame (f,f,())=some (true,()):=eq_Frame _ rfl (Nat.le_trans hf (by omega))
 obtain⟨a,m',ha,a0,a1⟩:=mark_medl m hm
 obtain⟨f',k1⟩:=mark_frame f a (Nat.le_trans hf (by omega))
 have n1:=q_Int64S f.2.2.2.1 (Nat.le_trans hf (by omega)) a a0 (by omega)
 generalize (marks f_Int64 f.2.2.2.1 a).2=a2 at k1 n1
 have hb2:0≤a2∧a2≤100000100000000:=by omega
 have k2:l_markFaultS (s1,a2,())=_:=mark_FaultS (s1,a2,()) (Nat.le_trans hs1 (by omega))
 have n2:=q_FaultS s1 (Nat.le_trans hs1 (by omega)) a2 hb2.1 (by omega)
 simp only at k2
 generalize (marks f_Fault s1 a2).2=a3 at k2 n2
 generalize (marks f_Fault s1 a2).1=z1 at k2
 have hb3:0≤a3∧a3≤100000200000000:=by omega
 have k4:l_markFaultS (s2,a3,())=_:=mark_FaultS (s2,a3,()) (Nat.le_trans hs2 (by omega))
 have n4:=q_FaultS s2 (Nat.le_trans hs2 (by omega)) a3 hb3.1 (by omega)
 simp only at k4
 generalize (marks f_Fault s2 a3).2=a4 at k4 n4
 generalize (marks f_Fault s2 a3).1=z2 at k4
 have d2:decide (a4<0)=false:=decide_eq_false (by omega)
 obtain⟨(v1:Int),⟨(f1:Int),(r1:Int),⟨(t11:Int),(t12:Int),(t13:Int),(t14:Int),(t15:Int),⟨⟩⟩,(da:List Int),⟨⟩⟩,⟨⟩⟩:=v
 obtain⟨(id:Int),(ns:List TNodeInfo.T),(ms:List TModeInfo.T),(ss:List TSlotInfo.T),⟨⟩⟩:=m
 obtain⟨(fk:Int),(fq:Int),⟨(u1:Int),(u2:Int),(u3:Int),(u4:Int),(u5:Int),⟨⟩⟩,(fd:List Int),⟨⟩⟩:=f
 simp only[withD]at q1 k3 h3 d3 c46
 unfold c_l_FnExactSendBoth_20
 simp only[flatF,q1,k3,h3,d3,c46,t1,t2,t3,t4,t5,e1,e2,e3,e5,ha,k1,k2,k4,d2,hi,bne_self_i,Bool.not_true,both_same,same_id]
theorem c15_ok(m:TMedl.T)(st:TState.T)(f:TFrame.T)(s1 s2:List TFault.T)(v:TVerdict.T)(c:Int)(hm:smallM m)(hf:f.2.2.2.1.length≤1048576)(hs1:s1.length≤1048576)(hs2:s2.length≤1048576)(hv:v.2.1.2.2.2.1.length≤1099511627776)(hi:i_SendBoth (m,st,f,s1,s2,())=some (v,c,())):
  c_l_FnExactSendBoth_15 (s1,s2,m,st,flatF f,v,c,())=some (.inr (true,())):=by
 have c20:=c20_ok m st f s1 s2 v c hm hf hs1 hs2 hv hi
 have t1:=to_Medl m hm
 have t2:l_toFaultS (s1,())=some (s1,()):=to_FaultS (s1,()) (Nat.le_trans hs1 (by omega))
 have t4:l_toFaultS (s2,())=some (s2,()):=to_FaultS (s2,()) (Nat.le_trans hs2 (by omega))
 have t3:l_toState (st,())=some (st,()):=rfl
 have t5:=to_frame f (Nat.le_trans hf (by omega))
 obtain⟨(v1:Int),⟨(f1:Int),(r1:Int),⟨(t11:Int),(t12:Int),(t13:Int),(t14:Int),(t15:Int),⟨⟩⟩,(da:List Int),⟨⟩⟩,⟨⟩⟩:=v
 obtain⟨(id:Int),(ns:List TNodeInfo.T),(ms:List TModeInfo.T),(ss:List TSlotInfo.T),⟨⟩⟩:=m
 obtain⟨(g1:Int),(g2:Int),(g3:Int),(g4:Int),(g5:Int),⟨⟩⟩:=st
 obtain⟨(fk:Int),(fq:Int),⟨(u1:Int),(u2:Int),(u3:Int),(u4:Int),(u5:Int),⟨⟩⟩,(fd:List Int),⟨⟩⟩:=f
 simp only[flatF]at c20 ⊢
 unfold c_l_FnExactSendBoth_15
 simp only[c20,t1,t2,t3,t4,t5,hi,both_same,same_id]
theorem law_SendBoth(x)(hx:Wf (.pair TMedl (.pair TState (.pair TFrame (.pair (.list TFault) (.pair (.list TFault) .unit))))) x):l_FnExactSendBoth x=some (true,()):=by
 obtain⟨m,st,f,s1,s2,u⟩:=x
 have hm:Wf TMedl m:=hx.1
 have hwf:f.2.2.2.1.length≤maxLen:=hx.2.2.1.2.2.2.1.1
 have hw1:s1.length≤maxLen:=hx.2.2.2.1.1
 have hw2:s2.length≤maxLen:=hx.2.2.2.2.1.1
 have e:l_FnExactSendBoth (m,st,f,s1,s2,u)=match l_szMedl (m,(1048576:Int),())with
  |none=>none
  |some v1=>match(decide (v1.1<(0:Int)))with
   |true=>some (true,())
   |false=>match l_szFrame (f,v1.1,())with
    |none=>none
    |some v2=>match(decide (v2.1<(0:Int)))with
     |true=>some (true,())
     |false=>match l_szFaultS (s1,v2.1,())with
      |none=>none
      |some v3=>match(decide (v3.1<(0:Int)))with
       |true=>some (true,())
       |false=>match l_szFaultS (s2,v3.1,())with
        |none=>none
        |some v4=>match(decide (v4.1<(0:Int)))with
         |true=>some (true,())
         |false=>_:=rfl
 obtain⟨y1,hy1,b1,g1⟩:=sz_medl2 m hm
 by_cases n1:y1<0
 ·rw[e,hy1]
  simp only[decide_eq_true n1]
 obtain⟨y2,hy2,b2,g2⟩:=sz_frame f y1 (by omega) b1 hwf
 by_cases n2:y2<0
 ·rw[e,hy1]
  simp only[decide_eq_false n1,hy2,decide_eq_true n2]
 obtain⟨y3,hy3,b3,g3⟩:=sz_faults s1 y2 (by omega) (by omega) hw1
 by_cases n3:y3<0
 ·rw[e,hy1]
  simp only[decide_eq_false n1,hy2,decide_eq_false n2,hy3,decide_eq_true n3]
 obtain⟨y4,hy4,b4,g4⟩:=sz_faults s2 y3 (by omega) (by omega) hw2
 by_cases n4:y4<0
 ·rw[e,hy1]
  simp only[decide_eq_false n1,hy2,decide_eq_false n2,hy3,decide_eq_false n3,hy4,decide_eq_true n4]
 have hsm:=g1 (by omega)
 have hz:=small_sizes hsm
 have l1:f.2.2.2.1.length≤1048576:=by have:=g2 (by omega);omega
 have l2:s1.length≤1048576:=by have:=g3 (by omega);omega
 have l3:s2.length≤1048576:=by have:=g4 (by omega);omega
 have hi:=i_sendR m st f s1 s2 hz (Nat.le_trans l1 (by omega)) (Nat.le_trans l2 (by omega)) (Nat.le_trans l3 (by omega))
 have hs':=s_sendR m st f s1 s2 hz (Nat.le_trans l1 (by omega)) (Nat.le_trans l2 (by omega)) (Nat.le_trans l3 (by omega))
 have hd:=send_data m st f s1 s2
 generalize sendR m st f s1 s2=r at hi hs' hd
 obtain⟨v,(c:Int),⟨⟩⟩:=r
 have hd:v.2.1.2.2.2.1.length≤32:=hd
 have c15:=c15_ok m st f s1 s2 v c hsm l1 l2 l3 (Nat.le_trans hd (by omega)) hi
 have t1:=to_Medl m hsm
 have t2:l_toFaultS (s1,())=some (s1,()):=to_FaultS (s1,()) (Nat.le_trans l2 (by omega))
 have t4:l_toFaultS (s2,())=some (s2,()):=to_FaultS (s2,()) (Nat.le_trans l3 (by omega))
 have t3:l_toState (st,())=some (st,()):=rfl
 have t5:=to_frame f (Nat.le_trans l1 (by omega))
 obtain⟨(v1:Int),⟨(f1:Int),(r1:Int),⟨(t11:Int),(t12:Int),(t13:Int),(t14:Int),(t15:Int),⟨⟩⟩,(da:List Int),⟨⟩⟩,⟨⟩⟩:=v
 obtain⟨(id:Int),(ns:List TNodeInfo.T),(ms:List TModeInfo.T),(ss:List TSlotInfo.T),⟨⟩⟩:=m
 obtain⟨(gg1:Int),(gg2:Int),(gg3:Int),(gg4:Int),(gg5:Int),⟨⟩⟩:=st
 obtain⟨(fk:Int),(fq:Int),⟨(u1:Int),(u2:Int),(u3:Int),(u4:Int),(u5:Int),⟨⟩⟩,(fd:List Int),⟨⟩⟩:=f
 simp only[flatF]at c15
 unfold l_FnExactSendBoth
 simp only[hy1,decide_eq_false n1,hy2,decide_eq_false n2,hy3,decide_eq_false n3,hy4,decide_eq_false n4,c15,t1,t2,t3,t4,t5,hs',both_same,same_id]
end Go.Proofs.YthfgmmmeplanbaaGreatDoor
